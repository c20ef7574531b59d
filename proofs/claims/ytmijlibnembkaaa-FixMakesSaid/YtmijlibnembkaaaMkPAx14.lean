-- Printed by wip/tools/extprint.py over the kit's printer, with contracts of this session's own. Lean checks it.
import Derived.Test.YtmijlibnembkaaaMkPAx0
import Derived.Test.YtmijlibnembkaaaMkPAx13
namespace Go.Proofs.Ytmijlibnembkaaa.PA
open Go.RowKit Go.Proofs.YtmijlibnembkaaaW.PrintWords Go.Proofs.YtmijlibnembkaaaW.PrintLast Go.Proofs.YtmijlibnembkaaaW.PrintMore
attribute [local go_sem] max2_int min2_int max_two min_two max_three min_three max_four min_four   -- for this text's walks alone
set_option linter.unusedVariables false
set_option maxHeartbeats 8000000
set_option maxRecDepth 100000
set_option linter.unusedSimpArgs false

/-! ### posternref02_Plain: function 34 -/
mutual
def posternref02_Plain.j0 : Nat → List (S43) → Int → Bool → Option (Int × Int)
 | 0, _, _, _ => none
 | k + 1, x0, x1, x16 => if x16 = true then (some (0, 2)) else (if 0 ≤ x1 then (if x1 < (x0.length : Int) then ((posternref02_Known.f k (wrap64 ((rd_T43 x0 x1).f0))).bind fun t283 => (if t283 = true then ((posternref02_Uses.f k (wrap64 ((rd_T43 x0 x1).f0))).bind fun bt284 => (if bt284.1 = true then (if ((rd_T43 x0 x1).f1) > 10 then (posternref02_Plain.j1 k x0 x1 true ((rd_T43 x0 x1).f0) ((rd_T43 x0 x1).f1) ((rd_T43 x0 x1).f2) ((rd_T43 x0 x1).f3) ((rd_T43 x0 x1).f4)) else (if bt284.2.1 = true then (if ((rd_T43 x0 x1).f2) > 10 then (posternref02_Plain.j1 k x0 x1 true ((rd_T43 x0 x1).f0) ((rd_T43 x0 x1).f1) ((rd_T43 x0 x1).f2) ((rd_T43 x0 x1).f3) ((rd_T43 x0 x1).f4)) else (if bt284.2.2.1 = true then (if bt284.2.2.2 = true then (posternref02_Plain.j1 k x0 x1 false ((rd_T43 x0 x1).f0) ((rd_T43 x0 x1).f1) ((rd_T43 x0 x1).f2) ((rd_T43 x0 x1).f3) ((rd_T43 x0 x1).f4)) else (posternref02_Plain.j1 k x0 x1 (((rd_T43 x0 x1).f4) != 0) ((rd_T43 x0 x1).f0) ((rd_T43 x0 x1).f1) ((rd_T43 x0 x1).f2) ((rd_T43 x0 x1).f3) ((rd_T43 x0 x1).f4))) else (if ((rd_T43 x0 x1).f3) = 0 then (if bt284.2.2.2 = true then (posternref02_Plain.j1 k x0 x1 false ((rd_T43 x0 x1).f0) ((rd_T43 x0 x1).f1) ((rd_T43 x0 x1).f2) ((rd_T43 x0 x1).f3) ((rd_T43 x0 x1).f4)) else (posternref02_Plain.j1 k x0 x1 (((rd_T43 x0 x1).f4) != 0) ((rd_T43 x0 x1).f0) ((rd_T43 x0 x1).f1) ((rd_T43 x0 x1).f2) ((rd_T43 x0 x1).f3) ((rd_T43 x0 x1).f4))) else (posternref02_Plain.j1 k x0 x1 true ((rd_T43 x0 x1).f0) ((rd_T43 x0 x1).f1) ((rd_T43 x0 x1).f2) ((rd_T43 x0 x1).f3) ((rd_T43 x0 x1).f4))))) else (if ((rd_T43 x0 x1).f2) = 0 then (if bt284.2.2.1 = true then (if bt284.2.2.2 = true then (posternref02_Plain.j1 k x0 x1 false ((rd_T43 x0 x1).f0) ((rd_T43 x0 x1).f1) ((rd_T43 x0 x1).f2) ((rd_T43 x0 x1).f3) ((rd_T43 x0 x1).f4)) else (posternref02_Plain.j1 k x0 x1 (((rd_T43 x0 x1).f4) != 0) ((rd_T43 x0 x1).f0) ((rd_T43 x0 x1).f1) ((rd_T43 x0 x1).f2) ((rd_T43 x0 x1).f3) ((rd_T43 x0 x1).f4))) else (if ((rd_T43 x0 x1).f3) = 0 then (if bt284.2.2.2 = true then (posternref02_Plain.j1 k x0 x1 false ((rd_T43 x0 x1).f0) ((rd_T43 x0 x1).f1) ((rd_T43 x0 x1).f2) ((rd_T43 x0 x1).f3) ((rd_T43 x0 x1).f4)) else (posternref02_Plain.j1 k x0 x1 (((rd_T43 x0 x1).f4) != 0) ((rd_T43 x0 x1).f0) ((rd_T43 x0 x1).f1) ((rd_T43 x0 x1).f2) ((rd_T43 x0 x1).f3) ((rd_T43 x0 x1).f4))) else (posternref02_Plain.j1 k x0 x1 true ((rd_T43 x0 x1).f0) ((rd_T43 x0 x1).f1) ((rd_T43 x0 x1).f2) ((rd_T43 x0 x1).f3) ((rd_T43 x0 x1).f4)))) else (posternref02_Plain.j1 k x0 x1 true ((rd_T43 x0 x1).f0) ((rd_T43 x0 x1).f1) ((rd_T43 x0 x1).f2) ((rd_T43 x0 x1).f3) ((rd_T43 x0 x1).f4))))) else (if ((rd_T43 x0 x1).f1) = 0 then (if bt284.2.1 = true then (if ((rd_T43 x0 x1).f2) > 10 then (posternref02_Plain.j1 k x0 x1 true ((rd_T43 x0 x1).f0) ((rd_T43 x0 x1).f1) ((rd_T43 x0 x1).f2) ((rd_T43 x0 x1).f3) ((rd_T43 x0 x1).f4)) else (if bt284.2.2.1 = true then (if bt284.2.2.2 = true then (posternref02_Plain.j1 k x0 x1 false ((rd_T43 x0 x1).f0) ((rd_T43 x0 x1).f1) ((rd_T43 x0 x1).f2) ((rd_T43 x0 x1).f3) ((rd_T43 x0 x1).f4)) else (posternref02_Plain.j1 k x0 x1 (((rd_T43 x0 x1).f4) != 0) ((rd_T43 x0 x1).f0) ((rd_T43 x0 x1).f1) ((rd_T43 x0 x1).f2) ((rd_T43 x0 x1).f3) ((rd_T43 x0 x1).f4))) else (if ((rd_T43 x0 x1).f3) = 0 then (if bt284.2.2.2 = true then (posternref02_Plain.j1 k x0 x1 false ((rd_T43 x0 x1).f0) ((rd_T43 x0 x1).f1) ((rd_T43 x0 x1).f2) ((rd_T43 x0 x1).f3) ((rd_T43 x0 x1).f4)) else (posternref02_Plain.j1 k x0 x1 (((rd_T43 x0 x1).f4) != 0) ((rd_T43 x0 x1).f0) ((rd_T43 x0 x1).f1) ((rd_T43 x0 x1).f2) ((rd_T43 x0 x1).f3) ((rd_T43 x0 x1).f4))) else (posternref02_Plain.j1 k x0 x1 true ((rd_T43 x0 x1).f0) ((rd_T43 x0 x1).f1) ((rd_T43 x0 x1).f2) ((rd_T43 x0 x1).f3) ((rd_T43 x0 x1).f4))))) else (if ((rd_T43 x0 x1).f2) = 0 then (if bt284.2.2.1 = true then (if bt284.2.2.2 = true then (posternref02_Plain.j1 k x0 x1 false ((rd_T43 x0 x1).f0) ((rd_T43 x0 x1).f1) ((rd_T43 x0 x1).f2) ((rd_T43 x0 x1).f3) ((rd_T43 x0 x1).f4)) else (posternref02_Plain.j1 k x0 x1 (((rd_T43 x0 x1).f4) != 0) ((rd_T43 x0 x1).f0) ((rd_T43 x0 x1).f1) ((rd_T43 x0 x1).f2) ((rd_T43 x0 x1).f3) ((rd_T43 x0 x1).f4))) else (if ((rd_T43 x0 x1).f3) = 0 then (if bt284.2.2.2 = true then (posternref02_Plain.j1 k x0 x1 false ((rd_T43 x0 x1).f0) ((rd_T43 x0 x1).f1) ((rd_T43 x0 x1).f2) ((rd_T43 x0 x1).f3) ((rd_T43 x0 x1).f4)) else (posternref02_Plain.j1 k x0 x1 (((rd_T43 x0 x1).f4) != 0) ((rd_T43 x0 x1).f0) ((rd_T43 x0 x1).f1) ((rd_T43 x0 x1).f2) ((rd_T43 x0 x1).f3) ((rd_T43 x0 x1).f4))) else (posternref02_Plain.j1 k x0 x1 true ((rd_T43 x0 x1).f0) ((rd_T43 x0 x1).f1) ((rd_T43 x0 x1).f2) ((rd_T43 x0 x1).f3) ((rd_T43 x0 x1).f4)))) else (posternref02_Plain.j1 k x0 x1 true ((rd_T43 x0 x1).f0) ((rd_T43 x0 x1).f1) ((rd_T43 x0 x1).f2) ((rd_T43 x0 x1).f3) ((rd_T43 x0 x1).f4)))) else (posternref02_Plain.j1 k x0 x1 true ((rd_T43 x0 x1).f0) ((rd_T43 x0 x1).f1) ((rd_T43 x0 x1).f2) ((rd_T43 x0 x1).f3) ((rd_T43 x0 x1).f4))))) else (some (0, 41)))) else (none)) else (none))
def posternref02_Plain.j1 : Nat → List (S43) → Int → Bool → Int → Int → Int → Int → Int → Option (Int × Int)
 | 0, _, _, _, _, _, _, _, _ => none
 | k + 1, x0, x1, x85, x283000, x283001, x283002, x283003, x283004 => if x85 = true then (some (0, 42)) else (if x283000 = 133 then (posternref02_Plain.j2 k x0 x1 (decide (x283002 > 1)) x283000 x283001 x283002 x283003 x283004) else (if x283000 = 24 then (posternref02_Plain.j2 k x0 x1 (decide (x283002 > 1)) x283000 x283001 x283002 x283003 x283004) else (posternref02_Plain.j2 k x0 x1 false x283000 x283001 x283002 x283003 x283004)))
def posternref02_Plain.j2 : Nat → List (S43) → Int → Bool → Int → Int → Int → Int → Int → Option (Int × Int)
 | 0, _, _, _, _, _, _, _, _ => none
 | k + 1, x0, x1, x98, x283000, x283001, x283002, x283003, x283004 => if x98 = true then (some (0, 42)) else (if x283000 = 24 then (if x1 = (wrap64 ((x0.length : Int) - 1)) then (some (0, 42)) else (if 0 ≤ (wrap64 (x1 + 1)) then (if (wrap64 (x1 + 1)) < (x0.length : Int) then (if ((rd_T43 x0 (wrap64 (x1 + 1))).f0) = 0 then (if ((rd_T43 x0 (wrap64 (x1 + 1))).f1) = 0 then (if ((rd_T43 x0 (wrap64 (x1 + 1))).f2) = 0 then (if ((rd_T43 x0 (wrap64 (x1 + 1))).f3) = 0 then (some (2, 0)) else (some (0, 42))) else (some (0, 42))) else (some (0, 42))) else (some (0, 42))) else (none)) else (none))) else (some (1, 0)))
end
def posternref02_Plain.f (k : Nat) (l0 : List (S43)) (a1 : Int) : Option (Int × Int) := if a1 < 0 then (posternref02_Plain.j0 k l0 a1 true) else (posternref02_Plain.j0 k l0 a1 (decide (a1 ≥ (l0.length : Int))))
theorem posternref02_Plain.mono_l : ∀ k, (∀ y0 y1 y2, LeO (posternref02_Plain.j0 k y0 y1 y2) (posternref02_Plain.j0 (k + 1) y0 y1 y2)) ∧ (∀ y0 y1 y2 y3 y4 y5 y6 y7, LeO (posternref02_Plain.j1 k y0 y1 y2 y3 y4 y5 y6 y7) (posternref02_Plain.j1 (k + 1) y0 y1 y2 y3 y4 y5 y6 y7)) ∧ (∀ y0 y1 y2 y3 y4 y5 y6 y7, LeO (posternref02_Plain.j2 k y0 y1 y2 y3 y4 y5 y6 y7) (posternref02_Plain.j2 (k + 1) y0 y1 y2 y3 y4 y5 y6 y7))
 | 0 => by refine ⟨?_, ?_, ?_⟩ <;> (intros; intro r h; simp [posternref02_Plain.j0, posternref02_Plain.j1, posternref02_Plain.j2] at h)
 | k + 1 => by
  obtain ⟨ih0, ih1, ih2⟩ := posternref02_Plain.mono_l k; refine ⟨?_, ?_, ?_⟩
  all_goals intros
  all_goals (first | unfold posternref02_Plain.j0 | unfold posternref02_Plain.j1 | unfold posternref02_Plain.j2)
  all_goals repeat' (with_reducible first | apply ih0 | apply ih1 | apply ih2 | apply posternref02_Known.mono | apply posternref02_Uses.mono | exact LeO.refl _ | exact LeO.none _ | refine LeO.ite ?_ ?_ | refine LeO.bind ?_ (fun _ => ?_))
theorem posternref02_Plain.mono : ∀ a0 a1 k, LeO (posternref02_Plain.f k a0 a1) (posternref02_Plain.f (k + 1) a0 a1) := by
 intro a0 a1 k; obtain ⟨ih0, ih1, ih2⟩ := posternref02_Plain.mono_l k
 unfold posternref02_Plain.f
 repeat' (with_reducible first | apply ih0 | apply ih1 | apply ih2 | apply posternref02_Known.mono | apply posternref02_Uses.mono | exact LeO.refl _ | exact LeO.none _ | refine LeO.ite ?_ ?_ | refine LeO.bind ?_ (fun _ => ?_))
theorem posternref02_Plain.calls (k : Nat) (A0 : Option Addr) (c0 : Nat) (l0 : List (S43)) (a1 : Int) (r1 : Int) (r2 : Int) (w : World) (hr0 : Kd.C k43 w A0 l0.length l0) (hc0 : l0.length ≤ c0) (h : posternref02_Plain.f k l0 a1 = some (r1, r2)) :
  Calls Try.prog 34 #[.slice A0 l0.length c0, .int .i64 a1] w fun e w' => e = .returned (.tuple #[.int .i64 r1, .int .i64 r2]) ∧ Below w.heap.size w w' := by
 have hu43 := Try.underlying43; have hu94 := Try.underlying94; have HR0 := Aside0.mk hr0; have HC0 := Aside0.mk hc0; clear hr0 hc0; have HB := Aside0.mk (Below.refl w.heap.size w); have H : (if a1 < 0 then (posternref02_Plain.j0 k l0 a1 true) else (posternref02_Plain.j0 k l0 a1 (decide (a1 ≥ (l0.length : Int))))) = some (r1, r2) := h; clear h; have HC3 := Aside0.mk H; clear H; go_enter Try.func34, Try.ntmps34
 go_upto_region 1 with (fail)
 go_cut [16] (fun v16 wc => ∃ (kq : Nat) (x16_2 : Bool), v16 = .bool x16_2 ∧ Aside0 (posternref02_Plain.j0 kq l0 a1 x16_2 = some (r1, r2)) ∧ Aside0 (kq ≤ k) ∧ Aside0 (Below w.heap.size w wc))
 case first =>
  have H := HC3.out; clear HC3
  by_cases c4 : a1 < 0
  ·
   rw [if_pos c4] at H
   have c4b0 := decide_eq_true c4; clear c4; (first | rw [c4b0] | (simp only [i64_w, i32_w]; rw [c4b0]) | skip); have H' := Aside0.mk H; clear H; go_wp2; go_meet
   case rel => exact ⟨_, (true), eq_, H', ⟨by first | omega | exact Nat.le_refl _⟩, ⟨bl_ HB.out⟩⟩
  ·
   rw [if_neg c4] at H
   have c4b0 := decide_eq_false c4; clear c4; (first | rw [c4b0] | (simp only [i64_w, i32_w]; rw [c4b0]) | skip); have H' := Aside0.mk H; clear H; go_wp2; go_meet
   case rel => exact ⟨_, (decide (a1 ≥ (l0.length : Int))), eq_, H', ⟨by first | omega | exact Nat.le_refl _⟩, ⟨bl_ HB.out⟩⟩
 case rest =>
  clear HC3; obtain ⟨kq, x16_2, rfl, HA, HJ2, HB⟩ := hcut
  cases kq with
  | zero => exact absurd HA.out (by simp [posternref02_Plain.j0])
  | succ kj2 =>
   have H := HA.out; clear HA; simp only [posternref02_Plain.j0] at H
   by_cases c5 : x16_2 = true
   ·
    subst c5
    rw [if_pos rfl] at H; simp only [Option.some.injEq, Prod.mk.injEq] at H; obtain ⟨rfl, rfl⟩ := H; go_wp2; go_ret2
    exact ⟨rr_, bl_ HB.out⟩
   ·
    replace c5 := Bool.eq_false_iff.mpr c5
    subst c5; rw [if_neg (show ¬ (false = true) by decide)] at H
    by_cases c6 : 0 ≤ a1
    ·
     rw [if_pos c6] at H
     have c6b0 := decide_eq_true c6; clear c6
     by_cases c7 : a1 < (l0.length : Int)
     ·
      rw [if_pos c7] at H
      have c7b0 := decide_eq_true c7; clear c7; replace H := bs_ H; obtain ⟨t283, A8, H⟩ := H; (try dsimp only at H)
      by_cases c9 : t283 = true
      ·
       subst c9
       rw [if_pos rfl] at H; replace H := bs_ H; obtain ⟨⟨t284, t285, t286, t287⟩, A10, H⟩ := H; (try dsimp only at H); have HC11 := Aside0.mk H; clear H; have p281 : 0 ≤ (a1 : Int) := of_decide_eq_true as_; have q281 : a1 < (l0.length : Int) := of_decide_eq_true as_; obtain ⟨ad281, e281, hx281_0, hx281_1, hx281_2, hx281_3, hx281_4⟩ := at_T43 (Kd.C_below HR0.out HB.out) a1 p281 q281
       cases e281
       replace p281 := eq_true p281; replace q281 := eq_true q281; go_upto_region 7 with (first | ((with_reducible refine gate_dst (N := 6) rfl ?_); (try (refine gate_guard (by rfl) ?_; dsimp only)); refine box_event ?hg (N := 6) ?hd (cs := #[.int .u8 0, .int .u8 0, .int .u8 0, .int .i16 0, .int .i32 0]) (t := 43) ?hr ?_; (case hd => rfl); (case hg => rfl); (case hr => first | (go_simp; done) | (go_simp; rfl)); intro gb282 hg w12 hbox hb; have n_ : _ ∧ _ ∧ _ ∧ _ := ⟨k_ (below_step (bl_ HB.out) hb), k_ (hbox), k_ ((by rw [hg]; exact (below_size (bl_ HB.out)) : w.heap.size ≤ gb282)), k_ ((by rw [hg]; exact (below_size (bl_ HB.out)) : w.heap.size ≤ gb282))⟩; clear HB; obtain ⟨HB, BK282, GW282, GE282⟩ := n_; clear hb hbox hg; obtain ⟨⟨hcz13_0, hcz13_1, hcz13_2, hcz13_3, hcz13_4⟩, hfz13_0, hfz13_1, hfz13_2, hfz13_3, hfz13_4⟩ := blk5_ BK282.out) | ((with_reducible refine gate_callee (f := 55) rfl ?_); refine goesL_ (some 24) rfl rfl Try.func55 (by kernel_rfl) rfl #[.int .i64 (wrap64 ((rd_T43 l0 a1).f0))] rfl am_ ?_; (with_reducible refine (posternref02_Known.calls kj2 (wrap64 ((rd_T43 l0 a1).f0)) true _ A8.out).mono ?_); rintro e w' ⟨rfl, ⟨nd, rfl⟩⟩; refine ⟨_, rfl, ?_⟩) | ((with_reducible refine gate_callee (f := 56) rfl ?_); refine goesL_ (some 29) rfl rfl Try.func56 (by kernel_rfl) rfl #[.int .i64 (wrap64 ((rd_T43 l0 a1).f0))] rfl am_ ?_; (with_reducible refine (posternref02_Uses.calls kj2 (wrap64 ((rd_T43 l0 a1).f0)) t284 t285 t286 t287 _ A10.out).mono ?_); rintro e w14 ⟨rfl, hb⟩; refine ⟨_, rfl, ?_⟩; have n_ : _ ∧ _ := ⟨k_ (blk_below (g := gb282) (o := .cells #[.int .u8 ((rd_T43 l0 a1).f0), .int .u8 ((rd_T43 l0 a1).f1), .int .u8 ((rd_T43 l0 a1).f2), .int .i16 ((rd_T43 l0 a1).f3), .int .i32 ((rd_T43 l0 a1).f4)] 43 (0, 0)) (bz0_ BK282.out) hb), k_ (below_step (bm_ HB.out GE282.out) hb)⟩; clear BK282 HB; obtain ⟨BK282, HB⟩ := n_; clear hb) | ((with_reducible refine gate_dst (N := 7) rfl ?_); (try (refine gate_guard (by rfl) ?_; dsimp only)); refine box_event ?hg (N := 7) ?hd (cs := #[.bool false, .bool false, .bool false, .bool false]) (t := 94) ?hr ?_; (case hd => rfl); (case hg => rfl); (case hr => first | (go_simp; done) | (go_simp; rfl)); intro gb288 hg w15 hbox hb; have n_ : _ ∧ _ ∧ _ ∧ _ ∧ _ ∧ _ ∧ _ := ⟨k_ (blk_below (g := gb282) (o := .cells #[.int .u8 ((rd_T43 l0 a1).f0), .int .u8 ((rd_T43 l0 a1).f1), .int .u8 ((rd_T43 l0 a1).f2), .int .i16 ((rd_T43 l0 a1).f3), .int .i32 ((rd_T43 l0 a1).f4)] 43 (0, 0)) (bk_ BK282.out) hb), k_ (below_step (bm_ HB.out GE282.out) hb), k_ (hbox), k_ ((by rw [hg]; exact (below_size (bm_ HB.out GE282.out)) : w.heap.size ≤ gb288)), k_ ((by rw [hg]; exact (below_size (bm_ HB.out GE282.out)) : w.heap.size ≤ gb288)), k_ ((by rw [hg]; exact Nat.ne_of_lt (blk_lt (g := gb282) (o := .cells #[.int .u8 ((rd_T43 l0 a1).f0), .int .u8 ((rd_T43 l0 a1).f1), .int .u8 ((rd_T43 l0 a1).f2), .int .i16 ((rd_T43 l0 a1).f3), .int .i32 ((rd_T43 l0 a1).f4)] 43 (0, 0)) (bk_ BK282.out)) : gb282 ≠ gb288)), k_ ((by rw [hg]; exact Nat.ne_of_gt (blk_lt (g := gb282) (o := .cells #[.int .u8 ((rd_T43 l0 a1).f0), .int .u8 ((rd_T43 l0 a1).f1), .int .u8 ((rd_T43 l0 a1).f2), .int .i16 ((rd_T43 l0 a1).f3), .int .i32 ((rd_T43 l0 a1).f4)] 43 (0, 0)) (bk_ BK282.out)) : gb288 ≠ gb282))⟩; clear BK282 HB; obtain ⟨BK282, HB, BK288, GW288, GE288, NB282_288, NB288_282⟩ := n_; clear hb hbox hg; have hnb16 := NB288_282.out; have hnc16 := NB282_288.out; obtain ⟨⟨hcz17_0, hcz17_1, hcz17_2, hcz17_3⟩, hfz17_0, hfz17_1, hfz17_2, hfz17_3⟩ := blk4_ BK288.out))
       (try simp only [Act.put, List.setIfInBounds_toArray, List.set_cons_zero, List.set_cons_succ]); go_cut [85] (fun v85 wc => ∃ (kq : Nat) (x85_10 : Bool), v85 = .bool x85_10 ∧ Aside0 (posternref02_Plain.j1 kq l0 a1 x85_10 ((rd_T43 l0 a1).f0) ((rd_T43 l0 a1).f1) ((rd_T43 l0 a1).f2) ((rd_T43 l0 a1).f3) ((rd_T43 l0 a1).f4) = some (r1, r2)) ∧ Aside0 (kq ≤ kj2) ∧ Aside0 (wc.heap[gb282]? = some (.cells #[.int .u8 ((rd_T43 l0 a1).f0), .int .u8 ((rd_T43 l0 a1).f1), .int .u8 ((rd_T43 l0 a1).f2), .int .i16 ((rd_T43 l0 a1).f3), .int .i32 ((rd_T43 l0 a1).f4)] 43 (0, 0))) ∧ Aside0 (wc.heap[gb288]? = some (.cells #[.bool t284, .bool t285, .bool t286, .bool t287] 94 (0, 0))) ∧ Aside0 (Below w.heap.size w wc))
       case first =>
        have H := HC11.out; clear HC11
        by_cases c18 : t284 = true
        ·
         subst c18
         rw [if_pos rfl] at H
         by_cases c19 : ((rd_T43 l0 a1).f1) > 10
         ·
          rw [if_pos c19] at H
          have c19b0 := decide_eq_true c19; clear c19; (first | rw [c19b0] | (simp only [i64_w, i32_w]; rw [c19b0]) | skip); have H' := Aside0.mk H; clear H; have hnb20 := NB288_282.out; have hnc20 := NB282_288.out; obtain ⟨⟨hcz21_0, hcz21_1, hcz21_2, hcz21_3⟩, hfz21_0, hfz21_1, hfz21_2, hfz21_3⟩ := blk4_ BK288.out; obtain ⟨⟨hcz22_0, hcz22_1, hcz22_2, hcz22_3, hcz22_4⟩, hfz22_0, hfz22_1, hfz22_2, hfz22_3, hfz22_4⟩ := blk5_ BK282.out; go_wp2; go_meet
          case rel => exact ⟨_, (true), eq_, H', ⟨by have := HJ2.out; first | omega | exact Nat.le_refl _⟩, ⟨bz1_ BK282.out NB282_288.out⟩, ⟨bz0_ BK288.out⟩, ⟨bm2_ HB.out GE282.out GE288.out⟩⟩
         ·
          rw [if_neg c19] at H
          have c19b0 := decide_eq_false c19; clear c19; (first | rw [c19b0] | (simp only [i64_w, i32_w]; rw [c19b0]) | skip)
          by_cases c23 : t285 = true
          ·
           subst c23
           rw [if_pos rfl] at H
           by_cases c24 : ((rd_T43 l0 a1).f2) > 10
           ·
            rw [if_pos c24] at H
            have c24b0 := decide_eq_true c24; clear c24; have H' := Aside0.mk H; clear H; have hnb25 := NB288_282.out; have hnc25 := NB282_288.out; obtain ⟨⟨hcz26_0, hcz26_1, hcz26_2, hcz26_3⟩, hfz26_0, hfz26_1, hfz26_2, hfz26_3⟩ := blk4_ BK288.out; obtain ⟨⟨hcz27_0, hcz27_1, hcz27_2, hcz27_3, hcz27_4⟩, hfz27_0, hfz27_1, hfz27_2, hfz27_3, hfz27_4⟩ := blk5_ BK282.out; go_wp2; go_meet
            case rel => exact ⟨_, (true), eq_, H', ⟨by have := HJ2.out; first | omega | exact Nat.le_refl _⟩, ⟨bz1_ BK282.out NB282_288.out⟩, ⟨bz0_ BK288.out⟩, ⟨bm2_ HB.out GE282.out GE288.out⟩⟩
           ·
            rw [if_neg c24] at H
            have c24b0 := decide_eq_false c24; clear c24
            by_cases c28 : t286 = true
            ·
             subst c28
             rw [if_pos rfl] at H
             by_cases c29 : t287 = true
             ·
              subst c29
              rw [if_pos rfl] at H; have H' := Aside0.mk H; clear H; have hnb30 := NB288_282.out; have hnc30 := NB282_288.out; obtain ⟨⟨hcz31_0, hcz31_1, hcz31_2, hcz31_3⟩, hfz31_0, hfz31_1, hfz31_2, hfz31_3⟩ := blk4_ BK288.out; obtain ⟨⟨hcz32_0, hcz32_1, hcz32_2, hcz32_3, hcz32_4⟩, hfz32_0, hfz32_1, hfz32_2, hfz32_3, hfz32_4⟩ := blk5_ BK282.out; go_wp2; go_meet
              case rel => exact ⟨_, (false), eq_, H', ⟨by have := HJ2.out; first | omega | exact Nat.le_refl _⟩, ⟨bz1_ BK282.out NB282_288.out⟩, ⟨bz0_ BK288.out⟩, ⟨bm2_ HB.out GE282.out GE288.out⟩⟩
             ·
              replace c29 := Bool.eq_false_iff.mpr c29
              subst c29; rw [if_neg (show ¬ (false = true) by decide)] at H; have H' := Aside0.mk H; clear H; have hnb33 := NB288_282.out; have hnc33 := NB282_288.out; obtain ⟨⟨hcz34_0, hcz34_1, hcz34_2, hcz34_3⟩, hfz34_0, hfz34_1, hfz34_2, hfz34_3⟩ := blk4_ BK288.out; obtain ⟨⟨hcz35_0, hcz35_1, hcz35_2, hcz35_3, hcz35_4⟩, hfz35_0, hfz35_1, hfz35_2, hfz35_3, hfz35_4⟩ := blk5_ BK282.out; go_wp2; go_meet
              case rel => exact ⟨_, ((((rd_T43 l0 a1).f4) != 0)), eq_, H', ⟨by have := HJ2.out; first | omega | exact Nat.le_refl _⟩, ⟨bz1_ BK282.out NB282_288.out⟩, ⟨bz0_ BK288.out⟩, ⟨bm2_ HB.out GE282.out GE288.out⟩⟩
            ·
             replace c28 := Bool.eq_false_iff.mpr c28
             subst c28; rw [if_neg (show ¬ (false = true) by decide)] at H
             by_cases c36 : ((rd_T43 l0 a1).f3) = 0
             ·
              rw [if_pos c36] at H
              have ⟨c36b0, c36b1⟩ := eqb_ c36; clear c36
              by_cases c37 : t287 = true
              ·
               subst c37
               rw [if_pos rfl] at H; have H' := Aside0.mk H; clear H; have hnb38 := NB288_282.out; have hnc38 := NB282_288.out; obtain ⟨⟨hcz39_0, hcz39_1, hcz39_2, hcz39_3⟩, hfz39_0, hfz39_1, hfz39_2, hfz39_3⟩ := blk4_ BK288.out; obtain ⟨⟨hcz40_0, hcz40_1, hcz40_2, hcz40_3, hcz40_4⟩, hfz40_0, hfz40_1, hfz40_2, hfz40_3, hfz40_4⟩ := blk5_ BK282.out; go_wp2; go_meet
               case rel => exact ⟨_, (false), eq_, H', ⟨by have := HJ2.out; first | omega | exact Nat.le_refl _⟩, ⟨bz1_ BK282.out NB282_288.out⟩, ⟨bz0_ BK288.out⟩, ⟨bm2_ HB.out GE282.out GE288.out⟩⟩
              ·
               replace c37 := Bool.eq_false_iff.mpr c37
               subst c37; rw [if_neg (show ¬ (false = true) by decide)] at H; have H' := Aside0.mk H; clear H; have hnb41 := NB288_282.out; have hnc41 := NB282_288.out; obtain ⟨⟨hcz42_0, hcz42_1, hcz42_2, hcz42_3⟩, hfz42_0, hfz42_1, hfz42_2, hfz42_3⟩ := blk4_ BK288.out; obtain ⟨⟨hcz43_0, hcz43_1, hcz43_2, hcz43_3, hcz43_4⟩, hfz43_0, hfz43_1, hfz43_2, hfz43_3, hfz43_4⟩ := blk5_ BK282.out; go_wp2; go_meet
               case rel => exact ⟨_, ((((rd_T43 l0 a1).f4) != 0)), eq_, H', ⟨by have := HJ2.out; first | omega | exact Nat.le_refl _⟩, ⟨bz1_ BK282.out NB282_288.out⟩, ⟨bz0_ BK288.out⟩, ⟨bm2_ HB.out GE282.out GE288.out⟩⟩
             ·
              rw [if_neg c36] at H
              have ⟨c36b0, c36b1⟩ := nqb_ c36; have H' := Aside0.mk H; clear H; have hnb44 := NB288_282.out; have hnc44 := NB282_288.out; obtain ⟨⟨hcz45_0, hcz45_1, hcz45_2, hcz45_3⟩, hfz45_0, hfz45_1, hfz45_2, hfz45_3⟩ := blk4_ BK288.out; obtain ⟨⟨hcz46_0, hcz46_1, hcz46_2, hcz46_3, hcz46_4⟩, hfz46_0, hfz46_1, hfz46_2, hfz46_3, hfz46_4⟩ := blk5_ BK282.out; go_wp2; go_meet
              case rel => exact ⟨_, (true), eq_, H', ⟨by have := HJ2.out; first | omega | exact Nat.le_refl _⟩, ⟨bz1_ BK282.out NB282_288.out⟩, ⟨bz0_ BK288.out⟩, ⟨bm2_ HB.out GE282.out GE288.out⟩⟩
          ·
           replace c23 := Bool.eq_false_iff.mpr c23
           subst c23; rw [if_neg (show ¬ (false = true) by decide)] at H
           by_cases c47 : ((rd_T43 l0 a1).f2) = 0
           ·
            rw [if_pos c47] at H
            have ⟨c47b0, c47b1⟩ := eqb_ c47; clear c47
            by_cases c48 : t286 = true
            ·
             subst c48
             rw [if_pos rfl] at H
             by_cases c49 : t287 = true
             ·
              subst c49
              rw [if_pos rfl] at H; have H' := Aside0.mk H; clear H; have hnb50 := NB288_282.out; have hnc50 := NB282_288.out; obtain ⟨⟨hcz51_0, hcz51_1, hcz51_2, hcz51_3⟩, hfz51_0, hfz51_1, hfz51_2, hfz51_3⟩ := blk4_ BK288.out; obtain ⟨⟨hcz52_0, hcz52_1, hcz52_2, hcz52_3, hcz52_4⟩, hfz52_0, hfz52_1, hfz52_2, hfz52_3, hfz52_4⟩ := blk5_ BK282.out; go_wp2; go_meet
              case rel => exact ⟨_, (false), eq_, H', ⟨by have := HJ2.out; first | omega | exact Nat.le_refl _⟩, ⟨bz1_ BK282.out NB282_288.out⟩, ⟨bz0_ BK288.out⟩, ⟨bm2_ HB.out GE282.out GE288.out⟩⟩
             ·
              replace c49 := Bool.eq_false_iff.mpr c49
              subst c49; rw [if_neg (show ¬ (false = true) by decide)] at H; have H' := Aside0.mk H; clear H; have hnb53 := NB288_282.out; have hnc53 := NB282_288.out; obtain ⟨⟨hcz54_0, hcz54_1, hcz54_2, hcz54_3⟩, hfz54_0, hfz54_1, hfz54_2, hfz54_3⟩ := blk4_ BK288.out; obtain ⟨⟨hcz55_0, hcz55_1, hcz55_2, hcz55_3, hcz55_4⟩, hfz55_0, hfz55_1, hfz55_2, hfz55_3, hfz55_4⟩ := blk5_ BK282.out; go_wp2; go_meet
              case rel => exact ⟨_, ((((rd_T43 l0 a1).f4) != 0)), eq_, H', ⟨by have := HJ2.out; first | omega | exact Nat.le_refl _⟩, ⟨bz1_ BK282.out NB282_288.out⟩, ⟨bz0_ BK288.out⟩, ⟨bm2_ HB.out GE282.out GE288.out⟩⟩
            ·
             replace c48 := Bool.eq_false_iff.mpr c48
             subst c48; rw [if_neg (show ¬ (false = true) by decide)] at H
             by_cases c56 : ((rd_T43 l0 a1).f3) = 0
             ·
              rw [if_pos c56] at H
              have ⟨c56b0, c56b1⟩ := eqb_ c56; clear c56
              by_cases c57 : t287 = true
              ·
               subst c57
               rw [if_pos rfl] at H; have H' := Aside0.mk H; clear H; have hnb58 := NB288_282.out; have hnc58 := NB282_288.out; obtain ⟨⟨hcz59_0, hcz59_1, hcz59_2, hcz59_3⟩, hfz59_0, hfz59_1, hfz59_2, hfz59_3⟩ := blk4_ BK288.out; obtain ⟨⟨hcz60_0, hcz60_1, hcz60_2, hcz60_3, hcz60_4⟩, hfz60_0, hfz60_1, hfz60_2, hfz60_3, hfz60_4⟩ := blk5_ BK282.out; go_wp2; go_meet
               case rel => exact ⟨_, (false), eq_, H', ⟨by have := HJ2.out; first | omega | exact Nat.le_refl _⟩, ⟨bz1_ BK282.out NB282_288.out⟩, ⟨bz0_ BK288.out⟩, ⟨bm2_ HB.out GE282.out GE288.out⟩⟩
              ·
               replace c57 := Bool.eq_false_iff.mpr c57
               subst c57; rw [if_neg (show ¬ (false = true) by decide)] at H; have H' := Aside0.mk H; clear H; have hnb61 := NB288_282.out; have hnc61 := NB282_288.out; obtain ⟨⟨hcz62_0, hcz62_1, hcz62_2, hcz62_3⟩, hfz62_0, hfz62_1, hfz62_2, hfz62_3⟩ := blk4_ BK288.out; obtain ⟨⟨hcz63_0, hcz63_1, hcz63_2, hcz63_3, hcz63_4⟩, hfz63_0, hfz63_1, hfz63_2, hfz63_3, hfz63_4⟩ := blk5_ BK282.out; go_wp2; go_meet
               case rel => exact ⟨_, ((((rd_T43 l0 a1).f4) != 0)), eq_, H', ⟨by have := HJ2.out; first | omega | exact Nat.le_refl _⟩, ⟨bz1_ BK282.out NB282_288.out⟩, ⟨bz0_ BK288.out⟩, ⟨bm2_ HB.out GE282.out GE288.out⟩⟩
             ·
              rw [if_neg c56] at H
              have ⟨c56b0, c56b1⟩ := nqb_ c56; have H' := Aside0.mk H; clear H; have hnb64 := NB288_282.out; have hnc64 := NB282_288.out; obtain ⟨⟨hcz65_0, hcz65_1, hcz65_2, hcz65_3⟩, hfz65_0, hfz65_1, hfz65_2, hfz65_3⟩ := blk4_ BK288.out; obtain ⟨⟨hcz66_0, hcz66_1, hcz66_2, hcz66_3, hcz66_4⟩, hfz66_0, hfz66_1, hfz66_2, hfz66_3, hfz66_4⟩ := blk5_ BK282.out; go_wp2; go_meet
              case rel => exact ⟨_, (true), eq_, H', ⟨by have := HJ2.out; first | omega | exact Nat.le_refl _⟩, ⟨bz1_ BK282.out NB282_288.out⟩, ⟨bz0_ BK288.out⟩, ⟨bm2_ HB.out GE282.out GE288.out⟩⟩
           ·
            rw [if_neg c47] at H
            have ⟨c47b0, c47b1⟩ := nqb_ c47; have H' := Aside0.mk H; clear H; have hnb67 := NB288_282.out; have hnc67 := NB282_288.out; obtain ⟨⟨hcz68_0, hcz68_1, hcz68_2, hcz68_3⟩, hfz68_0, hfz68_1, hfz68_2, hfz68_3⟩ := blk4_ BK288.out; obtain ⟨⟨hcz69_0, hcz69_1, hcz69_2, hcz69_3, hcz69_4⟩, hfz69_0, hfz69_1, hfz69_2, hfz69_3, hfz69_4⟩ := blk5_ BK282.out; go_wp2; go_meet
            case rel => exact ⟨_, (true), eq_, H', ⟨by have := HJ2.out; first | omega | exact Nat.le_refl _⟩, ⟨bz1_ BK282.out NB282_288.out⟩, ⟨bz0_ BK288.out⟩, ⟨bm2_ HB.out GE282.out GE288.out⟩⟩
        ·
         replace c18 := Bool.eq_false_iff.mpr c18
         subst c18; rw [if_neg (show ¬ (false = true) by decide)] at H
         by_cases c70 : ((rd_T43 l0 a1).f1) = 0
         ·
          rw [if_pos c70] at H
          have ⟨c70b0, c70b1⟩ := eqb_ c70; clear c70
          by_cases c71 : t285 = true
          ·
           subst c71
           rw [if_pos rfl] at H
           by_cases c72 : ((rd_T43 l0 a1).f2) > 10
           ·
            rw [if_pos c72] at H
            have c72b0 := decide_eq_true c72; clear c72; have H' := Aside0.mk H; clear H; have hnb73 := NB288_282.out; have hnc73 := NB282_288.out; obtain ⟨⟨hcz74_0, hcz74_1, hcz74_2, hcz74_3⟩, hfz74_0, hfz74_1, hfz74_2, hfz74_3⟩ := blk4_ BK288.out; obtain ⟨⟨hcz75_0, hcz75_1, hcz75_2, hcz75_3, hcz75_4⟩, hfz75_0, hfz75_1, hfz75_2, hfz75_3, hfz75_4⟩ := blk5_ BK282.out; go_wp2; go_meet
            case rel => exact ⟨_, (true), eq_, H', ⟨by have := HJ2.out; first | omega | exact Nat.le_refl _⟩, ⟨bz1_ BK282.out NB282_288.out⟩, ⟨bz0_ BK288.out⟩, ⟨bm2_ HB.out GE282.out GE288.out⟩⟩
           ·
            rw [if_neg c72] at H
            have c72b0 := decide_eq_false c72; clear c72
            by_cases c76 : t286 = true
            ·
             subst c76
             rw [if_pos rfl] at H
             by_cases c77 : t287 = true
             ·
              subst c77
              rw [if_pos rfl] at H; have H' := Aside0.mk H; clear H; have hnb78 := NB288_282.out; have hnc78 := NB282_288.out; obtain ⟨⟨hcz79_0, hcz79_1, hcz79_2, hcz79_3⟩, hfz79_0, hfz79_1, hfz79_2, hfz79_3⟩ := blk4_ BK288.out; obtain ⟨⟨hcz80_0, hcz80_1, hcz80_2, hcz80_3, hcz80_4⟩, hfz80_0, hfz80_1, hfz80_2, hfz80_3, hfz80_4⟩ := blk5_ BK282.out; go_wp2; go_meet
              case rel => exact ⟨_, (false), eq_, H', ⟨by have := HJ2.out; first | omega | exact Nat.le_refl _⟩, ⟨bz1_ BK282.out NB282_288.out⟩, ⟨bz0_ BK288.out⟩, ⟨bm2_ HB.out GE282.out GE288.out⟩⟩
             ·
              replace c77 := Bool.eq_false_iff.mpr c77
              subst c77; rw [if_neg (show ¬ (false = true) by decide)] at H; have H' := Aside0.mk H; clear H; have hnb81 := NB288_282.out; have hnc81 := NB282_288.out; obtain ⟨⟨hcz82_0, hcz82_1, hcz82_2, hcz82_3⟩, hfz82_0, hfz82_1, hfz82_2, hfz82_3⟩ := blk4_ BK288.out; obtain ⟨⟨hcz83_0, hcz83_1, hcz83_2, hcz83_3, hcz83_4⟩, hfz83_0, hfz83_1, hfz83_2, hfz83_3, hfz83_4⟩ := blk5_ BK282.out; go_wp2; go_meet
              case rel => exact ⟨_, ((((rd_T43 l0 a1).f4) != 0)), eq_, H', ⟨by have := HJ2.out; first | omega | exact Nat.le_refl _⟩, ⟨bz1_ BK282.out NB282_288.out⟩, ⟨bz0_ BK288.out⟩, ⟨bm2_ HB.out GE282.out GE288.out⟩⟩
            ·
             replace c76 := Bool.eq_false_iff.mpr c76
             subst c76; rw [if_neg (show ¬ (false = true) by decide)] at H
             by_cases c84 : ((rd_T43 l0 a1).f3) = 0
             ·
              rw [if_pos c84] at H
              have ⟨c84b0, c84b1⟩ := eqb_ c84; clear c84
              by_cases c85 : t287 = true
              ·
               subst c85
               rw [if_pos rfl] at H; have H' := Aside0.mk H; clear H; have hnb86 := NB288_282.out; have hnc86 := NB282_288.out; obtain ⟨⟨hcz87_0, hcz87_1, hcz87_2, hcz87_3⟩, hfz87_0, hfz87_1, hfz87_2, hfz87_3⟩ := blk4_ BK288.out; obtain ⟨⟨hcz88_0, hcz88_1, hcz88_2, hcz88_3, hcz88_4⟩, hfz88_0, hfz88_1, hfz88_2, hfz88_3, hfz88_4⟩ := blk5_ BK282.out; go_wp2; go_meet
               case rel => exact ⟨_, (false), eq_, H', ⟨by have := HJ2.out; first | omega | exact Nat.le_refl _⟩, ⟨bz1_ BK282.out NB282_288.out⟩, ⟨bz0_ BK288.out⟩, ⟨bm2_ HB.out GE282.out GE288.out⟩⟩
              ·
               replace c85 := Bool.eq_false_iff.mpr c85
               subst c85; rw [if_neg (show ¬ (false = true) by decide)] at H; have H' := Aside0.mk H; clear H; have hnb89 := NB288_282.out; have hnc89 := NB282_288.out; obtain ⟨⟨hcz90_0, hcz90_1, hcz90_2, hcz90_3⟩, hfz90_0, hfz90_1, hfz90_2, hfz90_3⟩ := blk4_ BK288.out; obtain ⟨⟨hcz91_0, hcz91_1, hcz91_2, hcz91_3, hcz91_4⟩, hfz91_0, hfz91_1, hfz91_2, hfz91_3, hfz91_4⟩ := blk5_ BK282.out; go_wp2; go_meet
               case rel => exact ⟨_, ((((rd_T43 l0 a1).f4) != 0)), eq_, H', ⟨by have := HJ2.out; first | omega | exact Nat.le_refl _⟩, ⟨bz1_ BK282.out NB282_288.out⟩, ⟨bz0_ BK288.out⟩, ⟨bm2_ HB.out GE282.out GE288.out⟩⟩
             ·
              rw [if_neg c84] at H
              have ⟨c84b0, c84b1⟩ := nqb_ c84; have H' := Aside0.mk H; clear H; have hnb92 := NB288_282.out; have hnc92 := NB282_288.out; obtain ⟨⟨hcz93_0, hcz93_1, hcz93_2, hcz93_3⟩, hfz93_0, hfz93_1, hfz93_2, hfz93_3⟩ := blk4_ BK288.out; obtain ⟨⟨hcz94_0, hcz94_1, hcz94_2, hcz94_3, hcz94_4⟩, hfz94_0, hfz94_1, hfz94_2, hfz94_3, hfz94_4⟩ := blk5_ BK282.out; go_wp2; go_meet
              case rel => exact ⟨_, (true), eq_, H', ⟨by have := HJ2.out; first | omega | exact Nat.le_refl _⟩, ⟨bz1_ BK282.out NB282_288.out⟩, ⟨bz0_ BK288.out⟩, ⟨bm2_ HB.out GE282.out GE288.out⟩⟩
          ·
           replace c71 := Bool.eq_false_iff.mpr c71
           subst c71; rw [if_neg (show ¬ (false = true) by decide)] at H
           by_cases c95 : ((rd_T43 l0 a1).f2) = 0
           ·
            rw [if_pos c95] at H
            have ⟨c95b0, c95b1⟩ := eqb_ c95; clear c95
            by_cases c96 : t286 = true
            ·
             subst c96
             rw [if_pos rfl] at H
             by_cases c97 : t287 = true
             ·
              subst c97
              rw [if_pos rfl] at H; have H' := Aside0.mk H; clear H; have hnb98 := NB288_282.out; have hnc98 := NB282_288.out; obtain ⟨⟨hcz99_0, hcz99_1, hcz99_2, hcz99_3⟩, hfz99_0, hfz99_1, hfz99_2, hfz99_3⟩ := blk4_ BK288.out; obtain ⟨⟨hcz100_0, hcz100_1, hcz100_2, hcz100_3, hcz100_4⟩, hfz100_0, hfz100_1, hfz100_2, hfz100_3, hfz100_4⟩ := blk5_ BK282.out; go_wp2; go_meet
              case rel => exact ⟨_, (false), eq_, H', ⟨by have := HJ2.out; first | omega | exact Nat.le_refl _⟩, ⟨bz1_ BK282.out NB282_288.out⟩, ⟨bz0_ BK288.out⟩, ⟨bm2_ HB.out GE282.out GE288.out⟩⟩
             ·
              replace c97 := Bool.eq_false_iff.mpr c97
              subst c97; rw [if_neg (show ¬ (false = true) by decide)] at H; have H' := Aside0.mk H; clear H; have hnb101 := NB288_282.out; have hnc101 := NB282_288.out; obtain ⟨⟨hcz102_0, hcz102_1, hcz102_2, hcz102_3⟩, hfz102_0, hfz102_1, hfz102_2, hfz102_3⟩ := blk4_ BK288.out; obtain ⟨⟨hcz103_0, hcz103_1, hcz103_2, hcz103_3, hcz103_4⟩, hfz103_0, hfz103_1, hfz103_2, hfz103_3, hfz103_4⟩ := blk5_ BK282.out; go_wp2; go_meet
              case rel => exact ⟨_, ((((rd_T43 l0 a1).f4) != 0)), eq_, H', ⟨by have := HJ2.out; first | omega | exact Nat.le_refl _⟩, ⟨bz1_ BK282.out NB282_288.out⟩, ⟨bz0_ BK288.out⟩, ⟨bm2_ HB.out GE282.out GE288.out⟩⟩
            ·
             replace c96 := Bool.eq_false_iff.mpr c96
             subst c96; rw [if_neg (show ¬ (false = true) by decide)] at H
             by_cases c104 : ((rd_T43 l0 a1).f3) = 0
             ·
              rw [if_pos c104] at H
              have ⟨c104b0, c104b1⟩ := eqb_ c104; clear c104
              by_cases c105 : t287 = true
              ·
               subst c105
               rw [if_pos rfl] at H; have H' := Aside0.mk H; clear H; have hnb106 := NB288_282.out; have hnc106 := NB282_288.out; obtain ⟨⟨hcz107_0, hcz107_1, hcz107_2, hcz107_3⟩, hfz107_0, hfz107_1, hfz107_2, hfz107_3⟩ := blk4_ BK288.out; obtain ⟨⟨hcz108_0, hcz108_1, hcz108_2, hcz108_3, hcz108_4⟩, hfz108_0, hfz108_1, hfz108_2, hfz108_3, hfz108_4⟩ := blk5_ BK282.out; go_wp2; go_meet
               case rel => exact ⟨_, (false), eq_, H', ⟨by have := HJ2.out; first | omega | exact Nat.le_refl _⟩, ⟨bz1_ BK282.out NB282_288.out⟩, ⟨bz0_ BK288.out⟩, ⟨bm2_ HB.out GE282.out GE288.out⟩⟩
              ·
               replace c105 := Bool.eq_false_iff.mpr c105
               subst c105; rw [if_neg (show ¬ (false = true) by decide)] at H; have H' := Aside0.mk H; clear H; have hnb109 := NB288_282.out; have hnc109 := NB282_288.out; obtain ⟨⟨hcz110_0, hcz110_1, hcz110_2, hcz110_3⟩, hfz110_0, hfz110_1, hfz110_2, hfz110_3⟩ := blk4_ BK288.out; obtain ⟨⟨hcz111_0, hcz111_1, hcz111_2, hcz111_3, hcz111_4⟩, hfz111_0, hfz111_1, hfz111_2, hfz111_3, hfz111_4⟩ := blk5_ BK282.out; go_wp2; go_meet
               case rel => exact ⟨_, ((((rd_T43 l0 a1).f4) != 0)), eq_, H', ⟨by have := HJ2.out; first | omega | exact Nat.le_refl _⟩, ⟨bz1_ BK282.out NB282_288.out⟩, ⟨bz0_ BK288.out⟩, ⟨bm2_ HB.out GE282.out GE288.out⟩⟩
             ·
              rw [if_neg c104] at H
              have ⟨c104b0, c104b1⟩ := nqb_ c104; have H' := Aside0.mk H; clear H; have hnb112 := NB288_282.out; have hnc112 := NB282_288.out; obtain ⟨⟨hcz113_0, hcz113_1, hcz113_2, hcz113_3⟩, hfz113_0, hfz113_1, hfz113_2, hfz113_3⟩ := blk4_ BK288.out; obtain ⟨⟨hcz114_0, hcz114_1, hcz114_2, hcz114_3, hcz114_4⟩, hfz114_0, hfz114_1, hfz114_2, hfz114_3, hfz114_4⟩ := blk5_ BK282.out; go_wp2; go_meet
              case rel => exact ⟨_, (true), eq_, H', ⟨by have := HJ2.out; first | omega | exact Nat.le_refl _⟩, ⟨bz1_ BK282.out NB282_288.out⟩, ⟨bz0_ BK288.out⟩, ⟨bm2_ HB.out GE282.out GE288.out⟩⟩
           ·
            rw [if_neg c95] at H
            have ⟨c95b0, c95b1⟩ := nqb_ c95; have H' := Aside0.mk H; clear H; have hnb115 := NB288_282.out; have hnc115 := NB282_288.out; obtain ⟨⟨hcz116_0, hcz116_1, hcz116_2, hcz116_3⟩, hfz116_0, hfz116_1, hfz116_2, hfz116_3⟩ := blk4_ BK288.out; obtain ⟨⟨hcz117_0, hcz117_1, hcz117_2, hcz117_3, hcz117_4⟩, hfz117_0, hfz117_1, hfz117_2, hfz117_3, hfz117_4⟩ := blk5_ BK282.out; go_wp2; go_meet
            case rel => exact ⟨_, (true), eq_, H', ⟨by have := HJ2.out; first | omega | exact Nat.le_refl _⟩, ⟨bz1_ BK282.out NB282_288.out⟩, ⟨bz0_ BK288.out⟩, ⟨bm2_ HB.out GE282.out GE288.out⟩⟩
         ·
          rw [if_neg c70] at H
          have ⟨c70b0, c70b1⟩ := nqb_ c70; have H' := Aside0.mk H; clear H; have hnb118 := NB288_282.out; have hnc118 := NB282_288.out; obtain ⟨⟨hcz119_0, hcz119_1, hcz119_2, hcz119_3⟩, hfz119_0, hfz119_1, hfz119_2, hfz119_3⟩ := blk4_ BK288.out; obtain ⟨⟨hcz120_0, hcz120_1, hcz120_2, hcz120_3, hcz120_4⟩, hfz120_0, hfz120_1, hfz120_2, hfz120_3, hfz120_4⟩ := blk5_ BK282.out; go_wp2; go_meet
          case rel => exact ⟨_, (true), eq_, H', ⟨by have := HJ2.out; first | omega | exact Nat.le_refl _⟩, ⟨bz1_ BK282.out NB282_288.out⟩, ⟨bz0_ BK288.out⟩, ⟨bm2_ HB.out GE282.out GE288.out⟩⟩
       case rest =>
        clear HC11; obtain ⟨kq, x85_10, rfl, HA, HJ10, BK282, BK288, HB⟩ := hcut
        cases kq with
        | zero => exact absurd HA.out (by simp [posternref02_Plain.j1])
        | succ kj10 =>
         have H := HA.out; clear HA; simp only [posternref02_Plain.j1] at H
         by_cases c121 : x85_10 = true
         ·
          subst c121
          rw [if_pos rfl] at H; simp only [Option.some.injEq, Prod.mk.injEq] at H; obtain ⟨rfl, rfl⟩ := H; go_wp2; go_ret2
          exact ⟨rr_, bm2_ HB.out GE282.out GE288.out⟩
         ·
          replace c121 := Bool.eq_false_iff.mpr c121
          subst c121; rw [if_neg (show ¬ (false = true) by decide)] at H; have HC122 := Aside0.mk H; clear H; go_upto_region 9 with (fail)
          go_cut [98] (fun v98 wc => ∃ (kq : Nat) (x98_121 : Bool), v98 = .bool x98_121 ∧ Aside0 (posternref02_Plain.j2 kq l0 a1 x98_121 ((rd_T43 l0 a1).f0) ((rd_T43 l0 a1).f1) ((rd_T43 l0 a1).f2) ((rd_T43 l0 a1).f3) ((rd_T43 l0 a1).f4) = some (r1, r2)) ∧ Aside0 (kq ≤ kj10) ∧ Aside0 (wc.heap[gb282]? = some (.cells #[.int .u8 ((rd_T43 l0 a1).f0), .int .u8 ((rd_T43 l0 a1).f1), .int .u8 ((rd_T43 l0 a1).f2), .int .i16 ((rd_T43 l0 a1).f3), .int .i32 ((rd_T43 l0 a1).f4)] 43 (0, 0))) ∧ Aside0 (wc.heap[gb288]? = some (.cells #[.bool t284, .bool t285, .bool t286, .bool t287] 94 (0, 0))) ∧ Aside0 (Below w.heap.size w wc))
          case first =>
           have H := HC122.out; clear HC122
           by_cases c123 : ((rd_T43 l0 a1).f0) = 133
           ·
            rw [if_pos c123] at H
            have ⟨c123b0, c123b1⟩ := eqb_ c123; clear c123; (first | rw [c123b0] | (simp only [i64_w, i32_w]; rw [c123b0]) | skip); have H' := Aside0.mk H; clear H; have hnb124 := NB282_288.out; have hnc124 := NB288_282.out; obtain ⟨⟨hcz125_0, hcz125_1, hcz125_2, hcz125_3, hcz125_4⟩, hfz125_0, hfz125_1, hfz125_2, hfz125_3, hfz125_4⟩ := blk5_ BK282.out; go_wp2; go_meet
            case rel => exact ⟨_, (decide (((rd_T43 l0 a1).f2) > 1)), eq_, H', ⟨by have := HJ2.out; have := HJ10.out; first | omega | exact Nat.le_refl _⟩, ⟨bk_ BK282.out⟩, ⟨bk_ BK288.out⟩, ⟨bm2_ HB.out GE282.out GE288.out⟩⟩
           ·
            rw [if_neg c123] at H
            have ⟨c123b0, c123b1⟩ := nqb_ c123; (first | rw [c123b0] | (simp only [i64_w, i32_w]; rw [c123b0]) | skip)
            by_cases c126 : ((rd_T43 l0 a1).f0) = 24
            ·
             rw [if_pos c126] at H
             have ⟨c126b0, c126b1⟩ := eqb_ c126; clear c126; have H' := Aside0.mk H; clear H; have hnb127 := NB282_288.out; have hnc127 := NB288_282.out; obtain ⟨⟨hcz128_0, hcz128_1, hcz128_2, hcz128_3, hcz128_4⟩, hfz128_0, hfz128_1, hfz128_2, hfz128_3, hfz128_4⟩ := blk5_ BK282.out; go_wp2; go_meet
             case rel => exact ⟨_, (decide (((rd_T43 l0 a1).f2) > 1)), eq_, H', ⟨by have := HJ2.out; have := HJ10.out; first | omega | exact Nat.le_refl _⟩, ⟨bk_ BK282.out⟩, ⟨bk_ BK288.out⟩, ⟨bm2_ HB.out GE282.out GE288.out⟩⟩
            ·
             rw [if_neg c126] at H
             have ⟨c126b0, c126b1⟩ := nqb_ c126; have H' := Aside0.mk H; clear H; have hnb129 := NB282_288.out; have hnc129 := NB288_282.out; obtain ⟨⟨hcz130_0, hcz130_1, hcz130_2, hcz130_3, hcz130_4⟩, hfz130_0, hfz130_1, hfz130_2, hfz130_3, hfz130_4⟩ := blk5_ BK282.out; go_wp2; go_meet
             case rel => exact ⟨_, (false), eq_, H', ⟨by have := HJ2.out; have := HJ10.out; first | omega | exact Nat.le_refl _⟩, ⟨bk_ BK282.out⟩, ⟨bk_ BK288.out⟩, ⟨bm2_ HB.out GE282.out GE288.out⟩⟩
          case rest =>
           clear HC122; obtain ⟨kq, x98_121, rfl, HA, HJ121, BK282, BK288, HB⟩ := hcut
           cases kq with
           | zero => exact absurd HA.out (by simp [posternref02_Plain.j2])
           | succ kj121 =>
            have H := HA.out; clear HA; simp only [posternref02_Plain.j2] at H
            by_cases c131 : x98_121 = true
            ·
             subst c131
             rw [if_pos rfl] at H; simp only [Option.some.injEq, Prod.mk.injEq] at H; obtain ⟨rfl, rfl⟩ := H; go_wp2; go_ret2
             exact ⟨rr_, bm2_ HB.out GE282.out GE288.out⟩
            ·
             replace c131 := Bool.eq_false_iff.mpr c131
             subst c131; rw [if_neg (show ¬ (false = true) by decide)] at H
             by_cases c132 : ((rd_T43 l0 a1).f0) = 24
             ·
              rw [if_pos c132] at H
              have ⟨c132b0, c132b1⟩ := eqb_ c132; clear c132
              by_cases c133 : a1 = (wrap64 ((l0.length : Int) - 1))
              ·
               rw [if_pos c133] at H
               have ⟨c133b0, c133b1⟩ := eqb_ c133; clear c133; simp only [Option.some.injEq, Prod.mk.injEq] at H; obtain ⟨rfl, rfl⟩ := H; have hnb134 := NB282_288.out; have hnc134 := NB288_282.out; obtain ⟨⟨hcz135_0, hcz135_1, hcz135_2, hcz135_3, hcz135_4⟩, hfz135_0, hfz135_1, hfz135_2, hfz135_3, hfz135_4⟩ := blk5_ BK282.out; go_wp2; go_ret2
               exact ⟨rr_, bm2_ HB.out GE282.out GE288.out⟩
              ·
               rw [if_neg c133] at H
               have ⟨c133b0, c133b1⟩ := nqb_ c133; obtain ⟨ji136, hji136⟩ : ∃ j_ : Int, (wrap64 (a1 + 1)) = j_ := ⟨_, rfl⟩; (first | rw [hji136] at H | simp only [hji136] at H); have hji136w : (IntKind.i64.wrap (a1 + 1)) = ji136 := (i64_w _).trans hji136
               by_cases c137 : 0 ≤ (ji136)
               ·
                rw [if_pos c137] at H
                have c137b0 := decide_eq_true c137; clear c137
                by_cases c138 : (ji136) < (l0.length : Int)
                ·
                 rw [if_pos c138] at H
                 have c138b0 := decide_eq_true c138; clear c138
                 by_cases c139 : ((rd_T43 l0 (ji136)).f0) = 0
                 ·
                  rw [if_pos c139] at H
                  have ⟨c139b0, c139b1⟩ := eqb_ c139; clear c139
                  by_cases c140 : ((rd_T43 l0 (ji136)).f1) = 0
                  ·
                   rw [if_pos c140] at H
                   have ⟨c140b0, c140b1⟩ := eqb_ c140; clear c140
                   by_cases c141 : ((rd_T43 l0 (ji136)).f2) = 0
                   ·
                    rw [if_pos c141] at H
                    have ⟨c141b0, c141b1⟩ := eqb_ c141; clear c141
                    by_cases c142 : ((rd_T43 l0 (ji136)).f3) = 0
                    ·
                     rw [if_pos c142] at H
                     have ⟨c142b0, c142b1⟩ := eqb_ c142; clear c142; simp only [Option.some.injEq, Prod.mk.injEq] at H; obtain ⟨rfl, rfl⟩ := H; have hnb143 := NB282_288.out; have hnc143 := NB288_282.out; obtain ⟨⟨hcz144_0, hcz144_1, hcz144_2, hcz144_3, hcz144_4⟩, hfz144_0, hfz144_1, hfz144_2, hfz144_3, hfz144_4⟩ := blk5_ BK282.out; have p289 : 0 ≤ ((ji136) : Int) := of_decide_eq_true as_; have q289 : (ji136) < (l0.length : Int) := of_decide_eq_true as_; obtain ⟨ad289, e289, hx289_0, hx289_1, hx289_2, hx289_3, hx289_4⟩ := at_T43 HR0.out (ji136) p289 q289; obtain rfl : ad281 = ad289 := (by injection e289); replace hx289_0 := (HB.out.cell (World.block_lt_of_cell? w _ hx289_0)).trans hx289_0; replace hx289_1 := (HB.out.cell (World.block_lt_of_cell? w _ hx289_1)).trans hx289_1; replace hx289_2 := (HB.out.cell (World.block_lt_of_cell? w _ hx289_2)).trans hx289_2; replace hx289_3 := (HB.out.cell (World.block_lt_of_cell? w _ hx289_3)).trans hx289_3; replace hx289_4 := (HB.out.cell (World.block_lt_of_cell? w _ hx289_4)).trans hx289_4; replace p289 := eq_true p289; replace q289 := eq_true q289; go_wp2_with (first | ((with_reducible refine gate_dst (N := 8) rfl ?_); (try (refine gate_guard (by rfl) ?_; dsimp only)); refine box_event ?hg (N := 8) ?hd (cs := #[.int .u8 0, .int .u8 0, .int .u8 0, .int .i16 0, .int .i32 0]) (t := 43) ?hr ?_; (case hd => rfl); (case hg => rfl); (case hr => first | (go_simp; done) | (go_simp; rfl)); intro gb290 hg w145 hbox hb; have n_ : _ ∧ _ ∧ _ ∧ _ ∧ _ ∧ _ ∧ _ ∧ _ ∧ _ ∧ _ := ⟨k_ (blk_below (g := gb282) (o := .cells #[.int .u8 ((rd_T43 l0 a1).f0), .int .u8 ((rd_T43 l0 a1).f1), .int .u8 ((rd_T43 l0 a1).f2), .int .i16 ((rd_T43 l0 a1).f3), .int .i32 ((rd_T43 l0 a1).f4)] 43 (0, 0)) (bk_ BK282.out) hb), k_ (blk_below (g := gb288) (o := .cells #[.bool t284, .bool t285, .bool t286, .bool t287] 94 (0, 0)) (bk_ BK288.out) hb), k_ (below_step (bm2_ HB.out GE282.out GE288.out) hb), k_ (hbox), k_ ((by rw [hg]; exact (below_size (bm2_ HB.out GE282.out GE288.out)) : w.heap.size ≤ gb290)), k_ ((by rw [hg]; exact (below_size (bm2_ HB.out GE282.out GE288.out)) : w.heap.size ≤ gb290)), k_ ((by rw [hg]; exact Nat.ne_of_lt (blk_lt (g := gb282) (o := .cells #[.int .u8 ((rd_T43 l0 a1).f0), .int .u8 ((rd_T43 l0 a1).f1), .int .u8 ((rd_T43 l0 a1).f2), .int .i16 ((rd_T43 l0 a1).f3), .int .i32 ((rd_T43 l0 a1).f4)] 43 (0, 0)) (bk_ BK282.out)) : gb282 ≠ gb290)), k_ ((by rw [hg]; exact Nat.ne_of_gt (blk_lt (g := gb282) (o := .cells #[.int .u8 ((rd_T43 l0 a1).f0), .int .u8 ((rd_T43 l0 a1).f1), .int .u8 ((rd_T43 l0 a1).f2), .int .i16 ((rd_T43 l0 a1).f3), .int .i32 ((rd_T43 l0 a1).f4)] 43 (0, 0)) (bk_ BK282.out)) : gb290 ≠ gb282)), k_ ((by rw [hg]; exact Nat.ne_of_lt (blk_lt (g := gb288) (o := .cells #[.bool t284, .bool t285, .bool t286, .bool t287] 94 (0, 0)) (bk_ BK288.out)) : gb288 ≠ gb290)), k_ ((by rw [hg]; exact Nat.ne_of_gt (blk_lt (g := gb288) (o := .cells #[.bool t284, .bool t285, .bool t286, .bool t287] 94 (0, 0)) (bk_ BK288.out)) : gb290 ≠ gb288))⟩; clear BK282 BK288 HB; obtain ⟨BK282, BK288, HB, BK290, GW290, GE290, NB282_290, NB290_282, NB288_290, NB290_288⟩ := n_; clear hb hbox hg; have hnb146 := NB290_282.out; have hnc146 := NB282_290.out; have hnb147 := NB290_288.out; have hnc147 := NB288_290.out; obtain ⟨⟨hcz148_0, hcz148_1, hcz148_2, hcz148_3, hcz148_4⟩, hfz148_0, hfz148_1, hfz148_2, hfz148_3, hfz148_4⟩ := blk5_ BK290.out))
                     go_ret2
                     exact ⟨by first | rfl | (simp [errW_none, errW_some] <;> rfl) | (simp only [← hji136]; first | rfl | (simp [errW_none, errW_some] <;> rfl)) | (simp [*, errW_none, errW_some] <;> rfl), by repeat (first | (with_reducible first | exact HB.out | apply below_alloc | apply pw_below_drewN | apply below_drew1 | refine below_set ?_ GE282.out | refine below_set ?_ GE288.out | refine below_set ?_ GE290.out) | exact HB.out)⟩
                    ·
                     rw [if_neg c142] at H
                     have ⟨c142b0, c142b1⟩ := nqb_ c142; simp only [Option.some.injEq, Prod.mk.injEq] at H; obtain ⟨rfl, rfl⟩ := H; have hnb149 := NB282_288.out; have hnc149 := NB288_282.out; obtain ⟨⟨hcz150_0, hcz150_1, hcz150_2, hcz150_3, hcz150_4⟩, hfz150_0, hfz150_1, hfz150_2, hfz150_3, hfz150_4⟩ := blk5_ BK282.out; have p289 : 0 ≤ ((ji136) : Int) := of_decide_eq_true as_; have q289 : (ji136) < (l0.length : Int) := of_decide_eq_true as_; obtain ⟨ad289, e289, hx289_0, hx289_1, hx289_2, hx289_3, hx289_4⟩ := at_T43 HR0.out (ji136) p289 q289; obtain rfl : ad281 = ad289 := (by injection e289); replace hx289_0 := (HB.out.cell (World.block_lt_of_cell? w _ hx289_0)).trans hx289_0; replace hx289_1 := (HB.out.cell (World.block_lt_of_cell? w _ hx289_1)).trans hx289_1; replace hx289_2 := (HB.out.cell (World.block_lt_of_cell? w _ hx289_2)).trans hx289_2; replace hx289_3 := (HB.out.cell (World.block_lt_of_cell? w _ hx289_3)).trans hx289_3; replace hx289_4 := (HB.out.cell (World.block_lt_of_cell? w _ hx289_4)).trans hx289_4; replace p289 := eq_true p289; replace q289 := eq_true q289; go_wp2_with (first | ((with_reducible refine gate_dst (N := 8) rfl ?_); (try (refine gate_guard (by rfl) ?_; dsimp only)); refine box_event ?hg (N := 8) ?hd (cs := #[.int .u8 0, .int .u8 0, .int .u8 0, .int .i16 0, .int .i32 0]) (t := 43) ?hr ?_; (case hd => rfl); (case hg => rfl); (case hr => first | (go_simp; done) | (go_simp; rfl)); intro gb290 hg w151 hbox hb; have n_ : _ ∧ _ ∧ _ ∧ _ ∧ _ ∧ _ ∧ _ ∧ _ ∧ _ ∧ _ := ⟨k_ (blk_below (g := gb282) (o := .cells #[.int .u8 ((rd_T43 l0 a1).f0), .int .u8 ((rd_T43 l0 a1).f1), .int .u8 ((rd_T43 l0 a1).f2), .int .i16 ((rd_T43 l0 a1).f3), .int .i32 ((rd_T43 l0 a1).f4)] 43 (0, 0)) (bk_ BK282.out) hb), k_ (blk_below (g := gb288) (o := .cells #[.bool t284, .bool t285, .bool t286, .bool t287] 94 (0, 0)) (bk_ BK288.out) hb), k_ (below_step (bm2_ HB.out GE282.out GE288.out) hb), k_ (hbox), k_ ((by rw [hg]; exact (below_size (bm2_ HB.out GE282.out GE288.out)) : w.heap.size ≤ gb290)), k_ ((by rw [hg]; exact (below_size (bm2_ HB.out GE282.out GE288.out)) : w.heap.size ≤ gb290)), k_ ((by rw [hg]; exact Nat.ne_of_lt (blk_lt (g := gb282) (o := .cells #[.int .u8 ((rd_T43 l0 a1).f0), .int .u8 ((rd_T43 l0 a1).f1), .int .u8 ((rd_T43 l0 a1).f2), .int .i16 ((rd_T43 l0 a1).f3), .int .i32 ((rd_T43 l0 a1).f4)] 43 (0, 0)) (bk_ BK282.out)) : gb282 ≠ gb290)), k_ ((by rw [hg]; exact Nat.ne_of_gt (blk_lt (g := gb282) (o := .cells #[.int .u8 ((rd_T43 l0 a1).f0), .int .u8 ((rd_T43 l0 a1).f1), .int .u8 ((rd_T43 l0 a1).f2), .int .i16 ((rd_T43 l0 a1).f3), .int .i32 ((rd_T43 l0 a1).f4)] 43 (0, 0)) (bk_ BK282.out)) : gb290 ≠ gb282)), k_ ((by rw [hg]; exact Nat.ne_of_lt (blk_lt (g := gb288) (o := .cells #[.bool t284, .bool t285, .bool t286, .bool t287] 94 (0, 0)) (bk_ BK288.out)) : gb288 ≠ gb290)), k_ ((by rw [hg]; exact Nat.ne_of_gt (blk_lt (g := gb288) (o := .cells #[.bool t284, .bool t285, .bool t286, .bool t287] 94 (0, 0)) (bk_ BK288.out)) : gb290 ≠ gb288))⟩; clear BK282 BK288 HB; obtain ⟨BK282, BK288, HB, BK290, GW290, GE290, NB282_290, NB290_282, NB288_290, NB290_288⟩ := n_; clear hb hbox hg; have hnb152 := NB290_282.out; have hnc152 := NB282_290.out; have hnb153 := NB290_288.out; have hnc153 := NB288_290.out; obtain ⟨⟨hcz154_0, hcz154_1, hcz154_2, hcz154_3, hcz154_4⟩, hfz154_0, hfz154_1, hfz154_2, hfz154_3, hfz154_4⟩ := blk5_ BK290.out))
                     go_ret2
                     exact ⟨by first | rfl | (simp [errW_none, errW_some] <;> rfl) | (simp only [← hji136]; first | rfl | (simp [errW_none, errW_some] <;> rfl)) | (simp [*, errW_none, errW_some] <;> rfl), by repeat (first | (with_reducible first | exact HB.out | apply below_alloc | apply pw_below_drewN | apply below_drew1 | refine below_set ?_ GE282.out | refine below_set ?_ GE288.out | refine below_set ?_ GE290.out) | exact HB.out)⟩
                   ·
                    rw [if_neg c141] at H
                    have ⟨c141b0, c141b1⟩ := nqb_ c141; simp only [Option.some.injEq, Prod.mk.injEq] at H; obtain ⟨rfl, rfl⟩ := H; have hnb155 := NB282_288.out; have hnc155 := NB288_282.out; obtain ⟨⟨hcz156_0, hcz156_1, hcz156_2, hcz156_3, hcz156_4⟩, hfz156_0, hfz156_1, hfz156_2, hfz156_3, hfz156_4⟩ := blk5_ BK282.out; have p289 : 0 ≤ ((ji136) : Int) := of_decide_eq_true as_; have q289 : (ji136) < (l0.length : Int) := of_decide_eq_true as_; obtain ⟨ad289, e289, hx289_0, hx289_1, hx289_2, hx289_3, hx289_4⟩ := at_T43 HR0.out (ji136) p289 q289; obtain rfl : ad281 = ad289 := (by injection e289); replace hx289_0 := (HB.out.cell (World.block_lt_of_cell? w _ hx289_0)).trans hx289_0; replace hx289_1 := (HB.out.cell (World.block_lt_of_cell? w _ hx289_1)).trans hx289_1; replace hx289_2 := (HB.out.cell (World.block_lt_of_cell? w _ hx289_2)).trans hx289_2; replace hx289_3 := (HB.out.cell (World.block_lt_of_cell? w _ hx289_3)).trans hx289_3; replace hx289_4 := (HB.out.cell (World.block_lt_of_cell? w _ hx289_4)).trans hx289_4; replace p289 := eq_true p289; replace q289 := eq_true q289; go_wp2_with (first | ((with_reducible refine gate_dst (N := 8) rfl ?_); (try (refine gate_guard (by rfl) ?_; dsimp only)); refine box_event ?hg (N := 8) ?hd (cs := #[.int .u8 0, .int .u8 0, .int .u8 0, .int .i16 0, .int .i32 0]) (t := 43) ?hr ?_; (case hd => rfl); (case hg => rfl); (case hr => first | (go_simp; done) | (go_simp; rfl)); intro gb290 hg w157 hbox hb; have n_ : _ ∧ _ ∧ _ ∧ _ ∧ _ ∧ _ ∧ _ ∧ _ ∧ _ ∧ _ := ⟨k_ (blk_below (g := gb282) (o := .cells #[.int .u8 ((rd_T43 l0 a1).f0), .int .u8 ((rd_T43 l0 a1).f1), .int .u8 ((rd_T43 l0 a1).f2), .int .i16 ((rd_T43 l0 a1).f3), .int .i32 ((rd_T43 l0 a1).f4)] 43 (0, 0)) (bk_ BK282.out) hb), k_ (blk_below (g := gb288) (o := .cells #[.bool t284, .bool t285, .bool t286, .bool t287] 94 (0, 0)) (bk_ BK288.out) hb), k_ (below_step (bm2_ HB.out GE282.out GE288.out) hb), k_ (hbox), k_ ((by rw [hg]; exact (below_size (bm2_ HB.out GE282.out GE288.out)) : w.heap.size ≤ gb290)), k_ ((by rw [hg]; exact (below_size (bm2_ HB.out GE282.out GE288.out)) : w.heap.size ≤ gb290)), k_ ((by rw [hg]; exact Nat.ne_of_lt (blk_lt (g := gb282) (o := .cells #[.int .u8 ((rd_T43 l0 a1).f0), .int .u8 ((rd_T43 l0 a1).f1), .int .u8 ((rd_T43 l0 a1).f2), .int .i16 ((rd_T43 l0 a1).f3), .int .i32 ((rd_T43 l0 a1).f4)] 43 (0, 0)) (bk_ BK282.out)) : gb282 ≠ gb290)), k_ ((by rw [hg]; exact Nat.ne_of_gt (blk_lt (g := gb282) (o := .cells #[.int .u8 ((rd_T43 l0 a1).f0), .int .u8 ((rd_T43 l0 a1).f1), .int .u8 ((rd_T43 l0 a1).f2), .int .i16 ((rd_T43 l0 a1).f3), .int .i32 ((rd_T43 l0 a1).f4)] 43 (0, 0)) (bk_ BK282.out)) : gb290 ≠ gb282)), k_ ((by rw [hg]; exact Nat.ne_of_lt (blk_lt (g := gb288) (o := .cells #[.bool t284, .bool t285, .bool t286, .bool t287] 94 (0, 0)) (bk_ BK288.out)) : gb288 ≠ gb290)), k_ ((by rw [hg]; exact Nat.ne_of_gt (blk_lt (g := gb288) (o := .cells #[.bool t284, .bool t285, .bool t286, .bool t287] 94 (0, 0)) (bk_ BK288.out)) : gb290 ≠ gb288))⟩; clear BK282 BK288 HB; obtain ⟨BK282, BK288, HB, BK290, GW290, GE290, NB282_290, NB290_282, NB288_290, NB290_288⟩ := n_; clear hb hbox hg; have hnb158 := NB290_282.out; have hnc158 := NB282_290.out; have hnb159 := NB290_288.out; have hnc159 := NB288_290.out; obtain ⟨⟨hcz160_0, hcz160_1, hcz160_2, hcz160_3, hcz160_4⟩, hfz160_0, hfz160_1, hfz160_2, hfz160_3, hfz160_4⟩ := blk5_ BK290.out))
                    go_ret2
                    exact ⟨by first | rfl | (simp [errW_none, errW_some] <;> rfl) | (simp only [← hji136]; first | rfl | (simp [errW_none, errW_some] <;> rfl)) | (simp [*, errW_none, errW_some] <;> rfl), by repeat (first | (with_reducible first | exact HB.out | apply below_alloc | apply pw_below_drewN | apply below_drew1 | refine below_set ?_ GE282.out | refine below_set ?_ GE288.out | refine below_set ?_ GE290.out) | exact HB.out)⟩
                  ·
                   rw [if_neg c140] at H
                   have ⟨c140b0, c140b1⟩ := nqb_ c140; simp only [Option.some.injEq, Prod.mk.injEq] at H; obtain ⟨rfl, rfl⟩ := H; have hnb161 := NB282_288.out; have hnc161 := NB288_282.out; obtain ⟨⟨hcz162_0, hcz162_1, hcz162_2, hcz162_3, hcz162_4⟩, hfz162_0, hfz162_1, hfz162_2, hfz162_3, hfz162_4⟩ := blk5_ BK282.out; have p289 : 0 ≤ ((ji136) : Int) := of_decide_eq_true as_; have q289 : (ji136) < (l0.length : Int) := of_decide_eq_true as_; obtain ⟨ad289, e289, hx289_0, hx289_1, hx289_2, hx289_3, hx289_4⟩ := at_T43 HR0.out (ji136) p289 q289; obtain rfl : ad281 = ad289 := (by injection e289); replace hx289_0 := (HB.out.cell (World.block_lt_of_cell? w _ hx289_0)).trans hx289_0; replace hx289_1 := (HB.out.cell (World.block_lt_of_cell? w _ hx289_1)).trans hx289_1; replace hx289_2 := (HB.out.cell (World.block_lt_of_cell? w _ hx289_2)).trans hx289_2; replace hx289_3 := (HB.out.cell (World.block_lt_of_cell? w _ hx289_3)).trans hx289_3; replace hx289_4 := (HB.out.cell (World.block_lt_of_cell? w _ hx289_4)).trans hx289_4; replace p289 := eq_true p289; replace q289 := eq_true q289; go_wp2_with (first | ((with_reducible refine gate_dst (N := 8) rfl ?_); (try (refine gate_guard (by rfl) ?_; dsimp only)); refine box_event ?hg (N := 8) ?hd (cs := #[.int .u8 0, .int .u8 0, .int .u8 0, .int .i16 0, .int .i32 0]) (t := 43) ?hr ?_; (case hd => rfl); (case hg => rfl); (case hr => first | (go_simp; done) | (go_simp; rfl)); intro gb290 hg w163 hbox hb; have n_ : _ ∧ _ ∧ _ ∧ _ ∧ _ ∧ _ ∧ _ ∧ _ ∧ _ ∧ _ := ⟨k_ (blk_below (g := gb282) (o := .cells #[.int .u8 ((rd_T43 l0 a1).f0), .int .u8 ((rd_T43 l0 a1).f1), .int .u8 ((rd_T43 l0 a1).f2), .int .i16 ((rd_T43 l0 a1).f3), .int .i32 ((rd_T43 l0 a1).f4)] 43 (0, 0)) (bk_ BK282.out) hb), k_ (blk_below (g := gb288) (o := .cells #[.bool t284, .bool t285, .bool t286, .bool t287] 94 (0, 0)) (bk_ BK288.out) hb), k_ (below_step (bm2_ HB.out GE282.out GE288.out) hb), k_ (hbox), k_ ((by rw [hg]; exact (below_size (bm2_ HB.out GE282.out GE288.out)) : w.heap.size ≤ gb290)), k_ ((by rw [hg]; exact (below_size (bm2_ HB.out GE282.out GE288.out)) : w.heap.size ≤ gb290)), k_ ((by rw [hg]; exact Nat.ne_of_lt (blk_lt (g := gb282) (o := .cells #[.int .u8 ((rd_T43 l0 a1).f0), .int .u8 ((rd_T43 l0 a1).f1), .int .u8 ((rd_T43 l0 a1).f2), .int .i16 ((rd_T43 l0 a1).f3), .int .i32 ((rd_T43 l0 a1).f4)] 43 (0, 0)) (bk_ BK282.out)) : gb282 ≠ gb290)), k_ ((by rw [hg]; exact Nat.ne_of_gt (blk_lt (g := gb282) (o := .cells #[.int .u8 ((rd_T43 l0 a1).f0), .int .u8 ((rd_T43 l0 a1).f1), .int .u8 ((rd_T43 l0 a1).f2), .int .i16 ((rd_T43 l0 a1).f3), .int .i32 ((rd_T43 l0 a1).f4)] 43 (0, 0)) (bk_ BK282.out)) : gb290 ≠ gb282)), k_ ((by rw [hg]; exact Nat.ne_of_lt (blk_lt (g := gb288) (o := .cells #[.bool t284, .bool t285, .bool t286, .bool t287] 94 (0, 0)) (bk_ BK288.out)) : gb288 ≠ gb290)), k_ ((by rw [hg]; exact Nat.ne_of_gt (blk_lt (g := gb288) (o := .cells #[.bool t284, .bool t285, .bool t286, .bool t287] 94 (0, 0)) (bk_ BK288.out)) : gb290 ≠ gb288))⟩; clear BK282 BK288 HB; obtain ⟨BK282, BK288, HB, BK290, GW290, GE290, NB282_290, NB290_282, NB288_290, NB290_288⟩ := n_; clear hb hbox hg; have hnb164 := NB290_282.out; have hnc164 := NB282_290.out; have hnb165 := NB290_288.out; have hnc165 := NB288_290.out; obtain ⟨⟨hcz166_0, hcz166_1, hcz166_2, hcz166_3, hcz166_4⟩, hfz166_0, hfz166_1, hfz166_2, hfz166_3, hfz166_4⟩ := blk5_ BK290.out))
                   go_ret2
                   exact ⟨by first | rfl | (simp [errW_none, errW_some] <;> rfl) | (simp only [← hji136]; first | rfl | (simp [errW_none, errW_some] <;> rfl)) | (simp [*, errW_none, errW_some] <;> rfl), by repeat (first | (with_reducible first | exact HB.out | apply below_alloc | apply pw_below_drewN | apply below_drew1 | refine below_set ?_ GE282.out | refine below_set ?_ GE288.out | refine below_set ?_ GE290.out) | exact HB.out)⟩
                 ·
                  rw [if_neg c139] at H
                  have ⟨c139b0, c139b1⟩ := nqb_ c139; simp only [Option.some.injEq, Prod.mk.injEq] at H; obtain ⟨rfl, rfl⟩ := H; have hnb167 := NB282_288.out; have hnc167 := NB288_282.out; obtain ⟨⟨hcz168_0, hcz168_1, hcz168_2, hcz168_3, hcz168_4⟩, hfz168_0, hfz168_1, hfz168_2, hfz168_3, hfz168_4⟩ := blk5_ BK282.out; have p289 : 0 ≤ ((ji136) : Int) := of_decide_eq_true as_; have q289 : (ji136) < (l0.length : Int) := of_decide_eq_true as_; obtain ⟨ad289, e289, hx289_0, hx289_1, hx289_2, hx289_3, hx289_4⟩ := at_T43 HR0.out (ji136) p289 q289; obtain rfl : ad281 = ad289 := (by injection e289); replace hx289_0 := (HB.out.cell (World.block_lt_of_cell? w _ hx289_0)).trans hx289_0; replace hx289_1 := (HB.out.cell (World.block_lt_of_cell? w _ hx289_1)).trans hx289_1; replace hx289_2 := (HB.out.cell (World.block_lt_of_cell? w _ hx289_2)).trans hx289_2; replace hx289_3 := (HB.out.cell (World.block_lt_of_cell? w _ hx289_3)).trans hx289_3; replace hx289_4 := (HB.out.cell (World.block_lt_of_cell? w _ hx289_4)).trans hx289_4; replace p289 := eq_true p289; replace q289 := eq_true q289; go_wp2_with (first | ((with_reducible refine gate_dst (N := 8) rfl ?_); (try (refine gate_guard (by rfl) ?_; dsimp only)); refine box_event ?hg (N := 8) ?hd (cs := #[.int .u8 0, .int .u8 0, .int .u8 0, .int .i16 0, .int .i32 0]) (t := 43) ?hr ?_; (case hd => rfl); (case hg => rfl); (case hr => first | (go_simp; done) | (go_simp; rfl)); intro gb290 hg w169 hbox hb; have n_ : _ ∧ _ ∧ _ ∧ _ ∧ _ ∧ _ ∧ _ ∧ _ ∧ _ ∧ _ := ⟨k_ (blk_below (g := gb282) (o := .cells #[.int .u8 ((rd_T43 l0 a1).f0), .int .u8 ((rd_T43 l0 a1).f1), .int .u8 ((rd_T43 l0 a1).f2), .int .i16 ((rd_T43 l0 a1).f3), .int .i32 ((rd_T43 l0 a1).f4)] 43 (0, 0)) (bk_ BK282.out) hb), k_ (blk_below (g := gb288) (o := .cells #[.bool t284, .bool t285, .bool t286, .bool t287] 94 (0, 0)) (bk_ BK288.out) hb), k_ (below_step (bm2_ HB.out GE282.out GE288.out) hb), k_ (hbox), k_ ((by rw [hg]; exact (below_size (bm2_ HB.out GE282.out GE288.out)) : w.heap.size ≤ gb290)), k_ ((by rw [hg]; exact (below_size (bm2_ HB.out GE282.out GE288.out)) : w.heap.size ≤ gb290)), k_ ((by rw [hg]; exact Nat.ne_of_lt (blk_lt (g := gb282) (o := .cells #[.int .u8 ((rd_T43 l0 a1).f0), .int .u8 ((rd_T43 l0 a1).f1), .int .u8 ((rd_T43 l0 a1).f2), .int .i16 ((rd_T43 l0 a1).f3), .int .i32 ((rd_T43 l0 a1).f4)] 43 (0, 0)) (bk_ BK282.out)) : gb282 ≠ gb290)), k_ ((by rw [hg]; exact Nat.ne_of_gt (blk_lt (g := gb282) (o := .cells #[.int .u8 ((rd_T43 l0 a1).f0), .int .u8 ((rd_T43 l0 a1).f1), .int .u8 ((rd_T43 l0 a1).f2), .int .i16 ((rd_T43 l0 a1).f3), .int .i32 ((rd_T43 l0 a1).f4)] 43 (0, 0)) (bk_ BK282.out)) : gb290 ≠ gb282)), k_ ((by rw [hg]; exact Nat.ne_of_lt (blk_lt (g := gb288) (o := .cells #[.bool t284, .bool t285, .bool t286, .bool t287] 94 (0, 0)) (bk_ BK288.out)) : gb288 ≠ gb290)), k_ ((by rw [hg]; exact Nat.ne_of_gt (blk_lt (g := gb288) (o := .cells #[.bool t284, .bool t285, .bool t286, .bool t287] 94 (0, 0)) (bk_ BK288.out)) : gb290 ≠ gb288))⟩; clear BK282 BK288 HB; obtain ⟨BK282, BK288, HB, BK290, GW290, GE290, NB282_290, NB290_282, NB288_290, NB290_288⟩ := n_; clear hb hbox hg; have hnb170 := NB290_282.out; have hnc170 := NB282_290.out; have hnb171 := NB290_288.out; have hnc171 := NB288_290.out; obtain ⟨⟨hcz172_0, hcz172_1, hcz172_2, hcz172_3, hcz172_4⟩, hfz172_0, hfz172_1, hfz172_2, hfz172_3, hfz172_4⟩ := blk5_ BK290.out))
                  go_ret2
                  exact ⟨by first | rfl | (simp [errW_none, errW_some] <;> rfl) | (simp only [← hji136]; first | rfl | (simp [errW_none, errW_some] <;> rfl)) | (simp [*, errW_none, errW_some] <;> rfl), by repeat (first | (with_reducible first | exact HB.out | apply below_alloc | apply pw_below_drewN | apply below_drew1 | refine below_set ?_ GE282.out | refine below_set ?_ GE288.out | refine below_set ?_ GE290.out) | exact HB.out)⟩
                ·
                 rw [if_neg c138] at H
                 exact absurd H (by simp)
               ·
                rw [if_neg c137] at H
                exact absurd H (by simp)
             ·
              rw [if_neg c132] at H
              have ⟨c132b0, c132b1⟩ := nqb_ c132; simp only [Option.some.injEq, Prod.mk.injEq] at H; obtain ⟨rfl, rfl⟩ := H; have hnb173 := NB282_288.out; have hnc173 := NB288_282.out; obtain ⟨⟨hcz174_0, hcz174_1, hcz174_2, hcz174_3, hcz174_4⟩, hfz174_0, hfz174_1, hfz174_2, hfz174_3, hfz174_4⟩ := blk5_ BK282.out; go_wp2; go_ret2
              exact ⟨rr_, bm2_ HB.out GE282.out GE288.out⟩
      ·
       replace c9 := Bool.eq_false_iff.mpr c9
       subst c9; rw [if_neg (show ¬ (false = true) by decide)] at H; simp only [Option.some.injEq, Prod.mk.injEq] at H; obtain ⟨rfl, rfl⟩ := H; have p281 : 0 ≤ (a1 : Int) := of_decide_eq_true as_; have q281 : a1 < (l0.length : Int) := of_decide_eq_true as_; obtain ⟨ad281, e281, hx281_0, hx281_1, hx281_2, hx281_3, hx281_4⟩ := at_T43 (Kd.C_below HR0.out HB.out) a1 p281 q281
       cases e281
       replace p281 := eq_true p281; replace q281 := eq_true q281; go_wp2_with (first | ((with_reducible refine gate_dst (N := 6) rfl ?_); (try (refine gate_guard (by rfl) ?_; dsimp only)); refine box_event ?hg (N := 6) ?hd (cs := #[.int .u8 0, .int .u8 0, .int .u8 0, .int .i16 0, .int .i32 0]) (t := 43) ?hr ?_; (case hd => rfl); (case hg => rfl); (case hr => first | (go_simp; done) | (go_simp; rfl)); intro gb282 hg w175 hbox hb; have n_ : _ ∧ _ ∧ _ ∧ _ := ⟨k_ (below_step (bl_ HB.out) hb), k_ (hbox), k_ ((by rw [hg]; exact (below_size (bl_ HB.out)) : w.heap.size ≤ gb282)), k_ ((by rw [hg]; exact (below_size (bl_ HB.out)) : w.heap.size ≤ gb282))⟩; clear HB; obtain ⟨HB, BK282, GW282, GE282⟩ := n_; clear hb hbox hg; obtain ⟨⟨hcz176_0, hcz176_1, hcz176_2, hcz176_3, hcz176_4⟩, hfz176_0, hfz176_1, hfz176_2, hfz176_3, hfz176_4⟩ := blk5_ BK282.out) | ((with_reducible refine gate_callee (f := 55) rfl ?_); refine goesL_ (some 24) rfl rfl Try.func55 (by kernel_rfl) rfl #[.int .i64 (wrap64 ((rd_T43 l0 a1).f0))] rfl am_ ?_; (with_reducible refine (posternref02_Known.calls kj2 (wrap64 ((rd_T43 l0 a1).f0)) false _ A8.out).mono ?_); rintro e w' ⟨rfl, ⟨nd, rfl⟩⟩; refine ⟨_, rfl, ?_⟩))
       go_ret2
       exact ⟨rr_, bm_ HB.out GE282.out⟩
     ·
      rw [if_neg c7] at H
      exact absurd H (by simp)
    ·
     rw [if_neg c6] at H
     exact absurd H (by simp)

end Go.Proofs.Ytmijlibnembkaaa.PA
