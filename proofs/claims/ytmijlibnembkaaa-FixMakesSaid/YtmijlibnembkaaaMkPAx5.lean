-- Printed by wip/tools/extprint.py over the kit's printer, with contracts of this session's own. Lean checks it.
import Derived.Test.YtmijlibnembkaaaMkPAx0
import Derived.Test.YtmijlibnembkaaaMkPAx2
import Derived.Test.YtmijlibnembkaaaMkPAx3
import Derived.Test.YtmijlibnembkaaaMkPAx4
namespace Go.Proofs.Ytmijlibnembkaaa.PA
open Go.RowKit Go.Proofs.YtmijlibnembkaaaW.PrintWords Go.Proofs.YtmijlibnembkaaaW.PrintLast Go.Proofs.YtmijlibnembkaaaW.PrintMore
attribute [local go_sem] max2_int min2_int max_two min_two max_three min_three max_four min_four   -- for this text's walks alone
set_option linter.unusedVariables false
set_option maxHeartbeats 8000000
set_option maxRecDepth 100000
set_option linter.unusedSimpArgs false

attribute [local go_sem high] eqA43
/-! ### insn_Plain: function 26 -/
mutual
def insn_Plain.j0 : Nat → List (S43) → Int → Bool → Option (Int × Int)
 | 0, _, _, _ => none
 | k + 1, x0, x1, x15 => if x15 = true then (some (0, 2)) else (if 0 ≤ x1 then (if x1 < (x0.length : Int) then ((insn_Known.f k ((rd_T43 x0 x1).f0)).bind fun t118 => (if t118 = true then ((insn_without.f k ((rd_T43 x0 x1).f0) ((rd_T43 x0 x1).f1) ((rd_T43 x0 x1).f2) ((rd_T43 x0 x1).f3) ((rd_T43 x0 x1).f4)).bind fun bt119 => (if (!(bt119.1 == ((rd_T43 x0 x1).f0)) || (!(bt119.2.1 == 0) || (!(bt119.2.2.1 == 0) || (!(bt119.2.2.2.1 == 0) || (!(bt119.2.2.2.2 == 0)))))) = true then (insn_Plain.j1 k x0 x1 true ((rd_T43 x0 x1).f0) ((rd_T43 x0 x1).f1) ((rd_T43 x0 x1).f2) ((rd_T43 x0 x1).f3) ((rd_T43 x0 x1).f4)) else (if ((rd_T43 x0 x1).f1) > 10 then (insn_Plain.j1 k x0 x1 true ((rd_T43 x0 x1).f0) ((rd_T43 x0 x1).f1) ((rd_T43 x0 x1).f2) ((rd_T43 x0 x1).f3) ((rd_T43 x0 x1).f4)) else (insn_Plain.j1 k x0 x1 (decide (((rd_T43 x0 x1).f2) > 10)) ((rd_T43 x0 x1).f0) ((rd_T43 x0 x1).f1) ((rd_T43 x0 x1).f2) ((rd_T43 x0 x1).f3) ((rd_T43 x0 x1).f4))))) else (some (0, 41)))) else (none)) else (none))
def insn_Plain.j1 : Nat → List (S43) → Int → Bool → Int → Int → Int → Int → Int → Option (Int × Int)
 | 0, _, _, _, _, _, _, _, _ => none
 | k + 1, x0, x1, x40, x118000, x118001, x118002, x118003, x118004 => if x40 = true then (some (0, 42)) else (if x118000 = 133 then (insn_Plain.j2 k x0 x1 (decide (x118002 > 1)) x118000 x118001 x118002 x118003 x118004) else (insn_Plain.j2 k x0 x1 false x118000 x118001 x118002 x118003 x118004))
def insn_Plain.j2 : Nat → List (S43) → Int → Bool → Int → Int → Int → Int → Int → Option (Int × Int)
 | 0, _, _, _, _, _, _, _, _ => none
 | k + 1, x0, x1, x48, x118000, x118001, x118002, x118003, x118004 => if x48 = true then (some (0, 42)) else ((insn_Wide.f x118000).bind fun t125 => (if t125 = true then (if x118002 > 1 then (some (0, 42)) else (if (wrap64 (x1 + 1)) ≥ (x0.length : Int) then (some (0, 42)) else (if 0 ≤ (wrap64 (x1 + 1)) then (if (wrap64 (x1 + 1)) < (x0.length : Int) then (if (!(((rd_T43 x0 (wrap64 (x1 + 1))).f0) == 0) || (!(((rd_T43 x0 (wrap64 (x1 + 1))).f1) == 0) || (!(((rd_T43 x0 (wrap64 (x1 + 1))).f2) == 0) || (!(((rd_T43 x0 (wrap64 (x1 + 1))).f3) == 0))))) = true then (some (0, 42)) else (some (2, 0))) else (none)) else (none)))) else (some (1, 0))))
end
def insn_Plain.f (k : Nat) (l0 : List (S43)) (a1 : Int) : Option (Int × Int) := if a1 < 0 then (insn_Plain.j0 k l0 a1 true) else (insn_Plain.j0 k l0 a1 (decide (a1 ≥ (l0.length : Int))))
theorem insn_Plain.mono_l : ∀ k, (∀ y0 y1 y2, LeO (insn_Plain.j0 k y0 y1 y2) (insn_Plain.j0 (k + 1) y0 y1 y2)) ∧ (∀ y0 y1 y2 y3 y4 y5 y6 y7, LeO (insn_Plain.j1 k y0 y1 y2 y3 y4 y5 y6 y7) (insn_Plain.j1 (k + 1) y0 y1 y2 y3 y4 y5 y6 y7)) ∧ (∀ y0 y1 y2 y3 y4 y5 y6 y7, LeO (insn_Plain.j2 k y0 y1 y2 y3 y4 y5 y6 y7) (insn_Plain.j2 (k + 1) y0 y1 y2 y3 y4 y5 y6 y7))
 | 0 => by refine ⟨?_, ?_, ?_⟩ <;> (intros; intro r h; simp [insn_Plain.j0, insn_Plain.j1, insn_Plain.j2] at h)
 | k + 1 => by
  obtain ⟨ih0, ih1, ih2⟩ := insn_Plain.mono_l k; refine ⟨?_, ?_, ?_⟩
  all_goals intros
  all_goals (first | unfold insn_Plain.j0 | unfold insn_Plain.j1 | unfold insn_Plain.j2)
  all_goals repeat' (with_reducible first | apply ih0 | apply ih1 | apply ih2 | apply insn_Known.mono | apply insn_without.mono | exact LeO.refl _ | exact LeO.none _ | refine LeO.ite ?_ ?_ | refine LeO.bind ?_ (fun _ => ?_))
theorem insn_Plain.mono : ∀ a0 a1 k, LeO (insn_Plain.f k a0 a1) (insn_Plain.f (k + 1) a0 a1) := by
 intro a0 a1 k; obtain ⟨ih0, ih1, ih2⟩ := insn_Plain.mono_l k
 unfold insn_Plain.f
 repeat' (with_reducible first | apply ih0 | apply ih1 | apply ih2 | apply insn_Known.mono | apply insn_without.mono | exact LeO.refl _ | exact LeO.none _ | refine LeO.ite ?_ ?_ | refine LeO.bind ?_ (fun _ => ?_))
theorem insn_Plain.calls (k : Nat) (A0 : Option Addr) (c0 : Nat) (l0 : List (S43)) (a1 : Int) (r1 : Int) (r2 : Int) (w : World) (hr0 : Kd.C k43 w A0 l0.length l0) (hc0 : l0.length ≤ c0) (h : insn_Plain.f k l0 a1 = some (r1, r2)) :
  Calls Try.prog 26 #[.slice A0 l0.length c0, .int .i64 a1] w fun e w' => e = .returned (.tuple #[.int .i64 r1, .int .i64 r2]) ∧ Below w.heap.size w w' := by
 have hu43 := Try.underlying43; have HR0 := Aside0.mk hr0; have HC0 := Aside0.mk hc0; clear hr0 hc0; have HB := Aside0.mk (Below.refl w.heap.size w); have H : (if a1 < 0 then (insn_Plain.j0 k l0 a1 true) else (insn_Plain.j0 k l0 a1 (decide (a1 ≥ (l0.length : Int))))) = some (r1, r2) := h; clear h; have HC3 := Aside0.mk H; clear H; go_enter Try.func26, Try.ntmps26
 go_upto_region 1 with (fail)
 go_cut [15] (fun v15 wc => ∃ (kq : Nat) (x15_2 : Bool), v15 = .bool x15_2 ∧ Aside0 (insn_Plain.j0 kq l0 a1 x15_2 = some (r1, r2)) ∧ Aside0 (kq ≤ k) ∧ Aside0 (Below w.heap.size w wc))
 case first =>
  have H := HC3.out; clear HC3
  by_cases c4 : a1 < 0
  ·
   rw [if_pos c4] at H
   have c4b0 := decide_eq_true c4; clear c4; (first | rw [c4b0] | (simp only [i64_w, i32_w]; rw [c4b0]) | skip); have H' := Aside0.mk H; clear H; go_wp2; go_meet
   case rel => exact ⟨_, (true), eq_, H', ⟨by first | omega | exact Nat.le_refl _⟩, ⟨bl_ HB.out⟩⟩
  ·
   rw [if_neg c4] at H
   have c4b0 := decide_eq_false c4; clear c4; (first | rw [c4b0] | (simp only [i64_w, i32_w]; rw [c4b0]) | skip); have H' := Aside0.mk H; clear H; go_wp2; go_meet
   case rel => exact ⟨_, (decide (a1 ≥ (l0.length : Int))), eq_, H', ⟨by first | omega | exact Nat.le_refl _⟩, ⟨bl_ HB.out⟩⟩
 case rest =>
  clear HC3; obtain ⟨kq, x15_2, rfl, HA, HJ2, HB⟩ := hcut
  cases kq with
  | zero => exact absurd HA.out (by simp [insn_Plain.j0])
  | succ kj2 =>
   have H := HA.out; clear HA; simp only [insn_Plain.j0] at H
   by_cases c5 : x15_2 = true
   ·
    subst c5
    rw [if_pos rfl] at H; simp only [Option.some.injEq, Prod.mk.injEq] at H; obtain ⟨rfl, rfl⟩ := H; go_wp2; go_ret2
    exact ⟨rr_, bl_ HB.out⟩
   ·
    replace c5 := Bool.eq_false_iff.mpr c5
    subst c5; rw [if_neg (show ¬ (false = true) by decide)] at H
    by_cases c6 : 0 ≤ a1
    ·
     rw [if_pos c6] at H
     have c6b0 := decide_eq_true c6; clear c6
     by_cases c7 : a1 < (l0.length : Int)
     ·
      rw [if_pos c7] at H
      have c7b0 := decide_eq_true c7; clear c7; replace H := bs_ H; obtain ⟨t118, A8, H⟩ := H; (try dsimp only at H)
      by_cases c9 : t118 = true
      ·
       subst c9
       rw [if_pos rfl] at H; replace H := bs_ H; obtain ⟨⟨t119, t120, t121, t122, t123⟩, A10, H⟩ := H; (try dsimp only at H); have HC11 := Aside0.mk H; clear H; have p116 : 0 ≤ (a1 : Int) := of_decide_eq_true as_; have q116 : a1 < (l0.length : Int) := of_decide_eq_true as_; obtain ⟨ad116, e116, hx116_0, hx116_1, hx116_2, hx116_3, hx116_4⟩ := at_T43 (Kd.C_below HR0.out HB.out) a1 p116 q116
       cases e116
       replace p116 := eq_true p116; replace q116 := eq_true q116; go_upto_region 7 with (first | ((with_reducible refine gate_dst (N := 6) rfl ?_); (try (refine gate_guard (by rfl) ?_; dsimp only)); refine box_event ?hg (N := 6) ?hd (cs := #[.int .u8 0, .int .u8 0, .int .u8 0, .int .i16 0, .int .i32 0]) (t := 43) ?hr ?_; (case hd => rfl); (case hg => rfl); (case hr => first | (go_simp; done) | (go_simp; rfl)); intro gb117 hg w12 hbox hb; have n_ : _ ∧ _ ∧ _ ∧ _ := ⟨k_ (below_step (bl_ HB.out) hb), k_ (hbox), k_ ((by rw [hg]; exact (below_size (bl_ HB.out)) : w.heap.size ≤ gb117)), k_ ((by rw [hg]; exact (below_size (bl_ HB.out)) : w.heap.size ≤ gb117))⟩; clear HB; obtain ⟨HB, BK117, GW117, GE117⟩ := n_; clear hb hbox hg; obtain ⟨⟨hcz13_0, hcz13_1, hcz13_2, hcz13_3, hcz13_4⟩, hfz13_0, hfz13_1, hfz13_2, hfz13_3, hfz13_4⟩ := blk5_ BK117.out) | (go_at_call 46; (with_reducible refine (insn_Known.calls kj2 ((rd_T43 l0 a1).f0) true _ A8.out).mono ?_); rintro e w' ⟨rfl, ⟨nd, rfl⟩⟩; (try first | exact ⟨rfl, _, World.drewN_drewN _ _ _⟩ | exact ⟨rfl, _, Eq.trans (World.drewN_drewN _ _ _) (congrArg (World.drewN _) (Nat.add_assoc _ _ _))⟩)) | (go_at_call 47; (with_reducible refine (insn_without.calls kj2 ((rd_T43 l0 a1).f0) ((rd_T43 l0 a1).f1) ((rd_T43 l0 a1).f2) ((rd_T43 l0 a1).f3) ((rd_T43 l0 a1).f4) t119 t120 t121 t122 t123 _ A10.out).mono ?_); rintro e w14 ⟨rfl, hb⟩; have n_ : _ ∧ _ := ⟨k_ (blk_below (g := gb117) (o := .cells #[.int .u8 ((rd_T43 l0 a1).f0), .int .u8 ((rd_T43 l0 a1).f1), .int .u8 ((rd_T43 l0 a1).f2), .int .i16 ((rd_T43 l0 a1).f3), .int .i32 ((rd_T43 l0 a1).f4)] 43 (0, 0)) (bz0_ BK117.out) hb), k_ (below_step (bm_ HB.out GE117.out) hb)⟩; clear BK117 HB; obtain ⟨BK117, HB⟩ := n_; clear hb) | ((with_reducible refine gate_dst (N := 7) rfl ?_); (try (refine gate_guard (by rfl) ?_; dsimp only)); refine box_event ?hg (N := 7) ?hd (cs := #[.int .u8 0, .int .u8 0, .int .u8 0, .int .i16 0, .int .i32 0]) (t := 43) ?hr ?_; (case hd => rfl); (case hg => rfl); (case hr => first | (go_simp; done) | (go_simp; rfl)); intro gb124 hg w15 hbox hb; have n_ : _ ∧ _ ∧ _ ∧ _ ∧ _ ∧ _ ∧ _ := ⟨k_ (blk_below (g := gb117) (o := .cells #[.int .u8 ((rd_T43 l0 a1).f0), .int .u8 ((rd_T43 l0 a1).f1), .int .u8 ((rd_T43 l0 a1).f2), .int .i16 ((rd_T43 l0 a1).f3), .int .i32 ((rd_T43 l0 a1).f4)] 43 (0, 0)) (bk_ BK117.out) hb), k_ (below_step (bm_ HB.out GE117.out) hb), k_ (hbox), k_ ((by rw [hg]; exact (below_size (bm_ HB.out GE117.out)) : w.heap.size ≤ gb124)), k_ ((by rw [hg]; exact (below_size (bm_ HB.out GE117.out)) : w.heap.size ≤ gb124)), k_ ((by rw [hg]; exact Nat.ne_of_lt (blk_lt (g := gb117) (o := .cells #[.int .u8 ((rd_T43 l0 a1).f0), .int .u8 ((rd_T43 l0 a1).f1), .int .u8 ((rd_T43 l0 a1).f2), .int .i16 ((rd_T43 l0 a1).f3), .int .i32 ((rd_T43 l0 a1).f4)] 43 (0, 0)) (bk_ BK117.out)) : gb117 ≠ gb124)), k_ ((by rw [hg]; exact Nat.ne_of_gt (blk_lt (g := gb117) (o := .cells #[.int .u8 ((rd_T43 l0 a1).f0), .int .u8 ((rd_T43 l0 a1).f1), .int .u8 ((rd_T43 l0 a1).f2), .int .i16 ((rd_T43 l0 a1).f3), .int .i32 ((rd_T43 l0 a1).f4)] 43 (0, 0)) (bk_ BK117.out)) : gb124 ≠ gb117))⟩; clear BK117 HB; obtain ⟨BK117, HB, BK124, GW124, GE124, NB117_124, NB124_117⟩ := n_; clear hb hbox hg; have hnb16 := NB124_117.out; have hnc16 := NB117_124.out; obtain ⟨⟨hcz17_0, hcz17_1, hcz17_2, hcz17_3, hcz17_4⟩, hfz17_0, hfz17_1, hfz17_2, hfz17_3, hfz17_4⟩ := blk5_ BK124.out))
       (try simp only [Act.put, List.setIfInBounds_toArray, List.set_cons_zero, List.set_cons_succ]); go_cut [40] (fun v40 wc => ∃ (kq : Nat) (x40_10 : Bool), v40 = .bool x40_10 ∧ Aside0 (insn_Plain.j1 kq l0 a1 x40_10 ((rd_T43 l0 a1).f0) ((rd_T43 l0 a1).f1) ((rd_T43 l0 a1).f2) ((rd_T43 l0 a1).f3) ((rd_T43 l0 a1).f4) = some (r1, r2)) ∧ Aside0 (kq ≤ kj2) ∧ Aside0 (wc.heap[gb117]? = some (.cells #[.int .u8 ((rd_T43 l0 a1).f0), .int .u8 ((rd_T43 l0 a1).f1), .int .u8 ((rd_T43 l0 a1).f2), .int .i16 ((rd_T43 l0 a1).f3), .int .i32 ((rd_T43 l0 a1).f4)] 43 (0, 0))) ∧ Aside0 (wc.heap[gb124]? = some (.cells #[.int .u8 t119, .int .u8 t120, .int .u8 t121, .int .i16 t122, .int .i32 t123] 43 (0, 0))) ∧ Aside0 (Below w.heap.size w wc))
       case first =>
        have H := HC11.out; clear HC11
        by_cases c18 : (!(t119 == ((rd_T43 l0 a1).f0)) || (!(t120 == 0) || (!(t121 == 0) || (!(t122 == 0) || (!(t123 == 0)))))) = true
        ·
         rw [if_pos c18] at H
         have c18b0 : (!(t119 == ((rd_T43 l0 a1).f0)) || (!(t120 == 0) || (!(t121 == 0) || (!(t122 == 0) || (!(t123 == 0)))))) = true := c18; clear c18; (first | rw [c18b0] | (simp only [i64_w, i32_w]; rw [c18b0]) | skip); have H' := Aside0.mk H; clear H; have hnb19 := NB124_117.out; have hnc19 := NB117_124.out; obtain ⟨⟨hcz20_0, hcz20_1, hcz20_2, hcz20_3, hcz20_4⟩, hfz20_0, hfz20_1, hfz20_2, hfz20_3, hfz20_4⟩ := blk5_ BK124.out; obtain ⟨⟨hcz21_0, hcz21_1, hcz21_2, hcz21_3, hcz21_4⟩, hfz21_0, hfz21_1, hfz21_2, hfz21_3, hfz21_4⟩ := blk5_ BK117.out; go_wp2; go_meet
         case rel => exact ⟨_, (true), eq_, H', ⟨by have := HJ2.out; first | omega | exact Nat.le_refl _⟩, ⟨bz1_ BK117.out NB117_124.out⟩, ⟨bz0_ BK124.out⟩, ⟨bm2_ HB.out GE117.out GE124.out⟩⟩
        ·
         rw [if_neg c18] at H
         have c18b0 : (!(t119 == ((rd_T43 l0 a1).f0)) || (!(t120 == 0) || (!(t121 == 0) || (!(t122 == 0) || (!(t123 == 0)))))) = false := by simpa using c18
         clear c18; (first | rw [c18b0] | (simp only [i64_w, i32_w]; rw [c18b0]) | skip)
         by_cases c22 : ((rd_T43 l0 a1).f1) > 10
         ·
          rw [if_pos c22] at H
          have c22b0 := decide_eq_true c22; clear c22; have H' := Aside0.mk H; clear H; have hnb23 := NB124_117.out; have hnc23 := NB117_124.out; obtain ⟨⟨hcz24_0, hcz24_1, hcz24_2, hcz24_3, hcz24_4⟩, hfz24_0, hfz24_1, hfz24_2, hfz24_3, hfz24_4⟩ := blk5_ BK124.out; obtain ⟨⟨hcz25_0, hcz25_1, hcz25_2, hcz25_3, hcz25_4⟩, hfz25_0, hfz25_1, hfz25_2, hfz25_3, hfz25_4⟩ := blk5_ BK117.out; go_wp2; go_meet
          case rel => exact ⟨_, (true), eq_, H', ⟨by have := HJ2.out; first | omega | exact Nat.le_refl _⟩, ⟨bz1_ BK117.out NB117_124.out⟩, ⟨bz0_ BK124.out⟩, ⟨bm2_ HB.out GE117.out GE124.out⟩⟩
         ·
          rw [if_neg c22] at H
          have c22b0 := decide_eq_false c22; clear c22; have H' := Aside0.mk H; clear H; have hnb26 := NB124_117.out; have hnc26 := NB117_124.out; obtain ⟨⟨hcz27_0, hcz27_1, hcz27_2, hcz27_3, hcz27_4⟩, hfz27_0, hfz27_1, hfz27_2, hfz27_3, hfz27_4⟩ := blk5_ BK124.out; obtain ⟨⟨hcz28_0, hcz28_1, hcz28_2, hcz28_3, hcz28_4⟩, hfz28_0, hfz28_1, hfz28_2, hfz28_3, hfz28_4⟩ := blk5_ BK117.out; go_wp2; go_meet
          case rel => exact ⟨_, (decide (((rd_T43 l0 a1).f2) > 10)), eq_, H', ⟨by have := HJ2.out; first | omega | exact Nat.le_refl _⟩, ⟨bz1_ BK117.out NB117_124.out⟩, ⟨bz0_ BK124.out⟩, ⟨bm2_ HB.out GE117.out GE124.out⟩⟩
       case rest =>
        clear HC11 c6b0 c7b0 hcz13_0 hcz13_1 hcz13_2 hcz13_3 hcz13_4 hcz17_0 hcz17_1 hcz17_2 hcz17_3 hcz17_4 hfz13_0 hfz13_1 hfz13_2 hfz13_3 hfz13_4 hfz17_0 hfz17_1 hfz17_2 hfz17_3 hfz17_4 hx116_0 hx116_1 hx116_2 hx116_3 hx116_4 p116 q116; obtain ⟨kq, x40_10, rfl, HA, HJ10, BK117, BK124, HB⟩ := hcut
        cases kq with
        | zero => exact absurd HA.out (by simp [insn_Plain.j1])
        | succ kj10 =>
         have H := HA.out; clear HA; simp only [insn_Plain.j1] at H
         by_cases c29 : x40_10 = true
         ·
          subst c29
          rw [if_pos rfl] at H; simp only [Option.some.injEq, Prod.mk.injEq] at H; obtain ⟨rfl, rfl⟩ := H; go_wp2; go_ret2
          exact ⟨rr_, bm2_ HB.out GE117.out GE124.out⟩
         ·
          replace c29 := Bool.eq_false_iff.mpr c29
          subst c29; rw [if_neg (show ¬ (false = true) by decide)] at H; have HC30 := Aside0.mk H; clear H; go_upto_region 9 with (fail)
          go_cut [48] (fun v48 wc => ∃ (kq : Nat) (x48_29 : Bool), v48 = .bool x48_29 ∧ Aside0 (insn_Plain.j2 kq l0 a1 x48_29 ((rd_T43 l0 a1).f0) ((rd_T43 l0 a1).f1) ((rd_T43 l0 a1).f2) ((rd_T43 l0 a1).f3) ((rd_T43 l0 a1).f4) = some (r1, r2)) ∧ Aside0 (kq ≤ kj10) ∧ Aside0 (wc.heap[gb117]? = some (.cells #[.int .u8 ((rd_T43 l0 a1).f0), .int .u8 ((rd_T43 l0 a1).f1), .int .u8 ((rd_T43 l0 a1).f2), .int .i16 ((rd_T43 l0 a1).f3), .int .i32 ((rd_T43 l0 a1).f4)] 43 (0, 0))) ∧ Aside0 (wc.heap[gb124]? = some (.cells #[.int .u8 t119, .int .u8 t120, .int .u8 t121, .int .i16 t122, .int .i32 t123] 43 (0, 0))) ∧ Aside0 (Below w.heap.size w wc))
          case first =>
           have H := HC30.out; clear HC30
           by_cases c31 : ((rd_T43 l0 a1).f0) = 133
           ·
            rw [if_pos c31] at H
            have ⟨c31b0, c31b1⟩ := eqb_ c31; clear c31; (first | rw [c31b0] | (simp only [i64_w, i32_w]; rw [c31b0]) | skip); have H' := Aside0.mk H; clear H; have hnb32 := NB117_124.out; have hnc32 := NB124_117.out; obtain ⟨⟨hcz33_0, hcz33_1, hcz33_2, hcz33_3, hcz33_4⟩, hfz33_0, hfz33_1, hfz33_2, hfz33_3, hfz33_4⟩ := blk5_ BK117.out; go_wp2; go_meet
            case rel => exact ⟨_, (decide (((rd_T43 l0 a1).f2) > 1)), eq_, H', ⟨by have := HJ2.out; have := HJ10.out; first | omega | exact Nat.le_refl _⟩, ⟨bk_ BK117.out⟩, ⟨bk_ BK124.out⟩, ⟨bm2_ HB.out GE117.out GE124.out⟩⟩
           ·
            rw [if_neg c31] at H
            have ⟨c31b0, c31b1⟩ := nqb_ c31; (first | rw [c31b0] | (simp only [i64_w, i32_w]; rw [c31b0]) | skip); have H' := Aside0.mk H; clear H; have hnb34 := NB117_124.out; have hnc34 := NB124_117.out; obtain ⟨⟨hcz35_0, hcz35_1, hcz35_2, hcz35_3, hcz35_4⟩, hfz35_0, hfz35_1, hfz35_2, hfz35_3, hfz35_4⟩ := blk5_ BK117.out; go_wp2; go_meet
            case rel => exact ⟨_, (false), eq_, H', ⟨by have := HJ2.out; have := HJ10.out; first | omega | exact Nat.le_refl _⟩, ⟨bk_ BK117.out⟩, ⟨bk_ BK124.out⟩, ⟨bm2_ HB.out GE117.out GE124.out⟩⟩
          case rest =>
           clear HC30; obtain ⟨kq, x48_29, rfl, HA, HJ29, BK117, BK124, HB⟩ := hcut
           cases kq with
           | zero => exact absurd HA.out (by simp [insn_Plain.j2])
           | succ kj29 =>
            have H := HA.out; clear HA; simp only [insn_Plain.j2] at H
            by_cases c36 : x48_29 = true
            ·
             subst c36
             rw [if_pos rfl] at H; simp only [Option.some.injEq, Prod.mk.injEq] at H; obtain ⟨rfl, rfl⟩ := H; go_wp2; go_ret2
             exact ⟨rr_, bm2_ HB.out GE117.out GE124.out⟩
            ·
             replace c36 := Bool.eq_false_iff.mpr c36
             subst c36; rw [if_neg (show ¬ (false = true) by decide)] at H; replace H := bs_ H; obtain ⟨t125, A37, H⟩ := H; (try dsimp only at H)
             by_cases c38 : t125 = true
             ·
              subst c38
              rw [if_pos rfl] at H
              by_cases c39 : ((rd_T43 l0 a1).f2) > 1
              ·
               rw [if_pos c39] at H
               have c39b0 := decide_eq_true c39; clear c39; simp only [Option.some.injEq, Prod.mk.injEq] at H; obtain ⟨rfl, rfl⟩ := H; have hnb40 := NB117_124.out; have hnc40 := NB124_117.out; obtain ⟨⟨hcz41_0, hcz41_1, hcz41_2, hcz41_3, hcz41_4⟩, hfz41_0, hfz41_1, hfz41_2, hfz41_3, hfz41_4⟩ := blk5_ BK117.out; go_wp2_with ((go_at_call 18; (with_reducible refine (insn_Wide.calls ((rd_T43 l0 a1).f0) true _ A37.out).mono ?_); rintro e w' ⟨rfl, ⟨nd, rfl⟩⟩; (try first | exact ⟨rfl, _, World.drewN_drewN _ _ _⟩ | exact ⟨rfl, _, Eq.trans (World.drewN_drewN _ _ _) (congrArg (World.drewN _) (Nat.add_assoc _ _ _))⟩)))
               repeat (go_quiet (fail); try go_wp2_with (fail))
               go_ret2
               exact ⟨rr_, bm2_ HB.out GE117.out GE124.out⟩
              ·
               rw [if_neg c39] at H
               have c39b0 := decide_eq_false c39; clear c39
               by_cases c42 : (wrap64 (a1 + 1)) ≥ (l0.length : Int)
               ·
                rw [if_pos c42] at H
                have c42b0 := decide_eq_true c42; clear c42; simp only [Option.some.injEq, Prod.mk.injEq] at H; obtain ⟨rfl, rfl⟩ := H; have hnb43 := NB117_124.out; have hnc43 := NB124_117.out; obtain ⟨⟨hcz44_0, hcz44_1, hcz44_2, hcz44_3, hcz44_4⟩, hfz44_0, hfz44_1, hfz44_2, hfz44_3, hfz44_4⟩ := blk5_ BK117.out; go_wp2_with ((go_at_call 18; (with_reducible refine (insn_Wide.calls ((rd_T43 l0 a1).f0) true _ A37.out).mono ?_); rintro e w' ⟨rfl, ⟨nd, rfl⟩⟩; (try first | exact ⟨rfl, _, World.drewN_drewN _ _ _⟩ | exact ⟨rfl, _, Eq.trans (World.drewN_drewN _ _ _) (congrArg (World.drewN _) (Nat.add_assoc _ _ _))⟩)))
                repeat (go_quiet (fail); try go_wp2_with (fail))
                go_ret2
                exact ⟨rr_, bm2_ HB.out GE117.out GE124.out⟩
               ·
                rw [if_neg c42] at H
                have c42b0 := decide_eq_false c42; clear c42; obtain ⟨ji45, hji45⟩ : ∃ j_ : Int, (wrap64 (a1 + 1)) = j_ := ⟨_, rfl⟩; (first | rw [hji45] at H | simp only [hji45] at H); (try rw [hji45] at c42b0); (try rw [hji45] at A37); have hji45w : (IntKind.i64.wrap (a1 + 1)) = ji45 := (i64_w _).trans hji45
                by_cases c46 : 0 ≤ (ji45)
                ·
                 rw [if_pos c46] at H
                 have c46b0 := decide_eq_true c46; clear c46
                 by_cases c47 : (ji45) < (l0.length : Int)
                 ·
                  rw [if_pos c47] at H
                  have c47b0 := decide_eq_true c47; clear c47
                  by_cases c48 : (!(((rd_T43 l0 (ji45)).f0) == 0) || (!(((rd_T43 l0 (ji45)).f1) == 0) || (!(((rd_T43 l0 (ji45)).f2) == 0) || (!(((rd_T43 l0 (ji45)).f3) == 0))))) = true
                  ·
                   rw [if_pos c48] at H
                   have c48b0 : (!(((rd_T43 l0 (ji45)).f0) == 0) || (!(((rd_T43 l0 (ji45)).f1) == 0) || (!(((rd_T43 l0 (ji45)).f2) == 0) || (!(((rd_T43 l0 (ji45)).f3) == 0))))) = true := c48; clear c48; simp only [Option.some.injEq, Prod.mk.injEq] at H; obtain ⟨rfl, rfl⟩ := H; have hnb49 := NB117_124.out; have hnc49 := NB124_117.out; obtain ⟨⟨hcz50_0, hcz50_1, hcz50_2, hcz50_3, hcz50_4⟩, hfz50_0, hfz50_1, hfz50_2, hfz50_3, hfz50_4⟩ := blk5_ BK117.out; go_wp2_with ((go_at_call 18; (with_reducible refine (insn_Wide.calls ((rd_T43 l0 a1).f0) true _ A37.out).mono ?_); rintro e w' ⟨rfl, ⟨nd, rfl⟩⟩; (try first | exact ⟨rfl, _, World.drewN_drewN _ _ _⟩ | exact ⟨rfl, _, Eq.trans (World.drewN_drewN _ _ _) (congrArg (World.drewN _) (Nat.add_assoc _ _ _))⟩); have p126 : 0 ≤ ((ji45) : Int) := of_decide_eq_true as_; have q126 : (ji45) < (l0.length : Int) := of_decide_eq_true as_; obtain ⟨ad126, e126, hx126_0, hx126_1, hx126_2, hx126_3, hx126_4⟩ := at_T43 HR0.out (ji45) p126 q126; obtain rfl : ad116 = ad126 := (by injection e126); replace hx126_0 := (HB.out.cell (World.block_lt_of_cell? w _ hx126_0)).trans hx126_0; replace hx126_1 := (HB.out.cell (World.block_lt_of_cell? w _ hx126_1)).trans hx126_1; replace hx126_2 := (HB.out.cell (World.block_lt_of_cell? w _ hx126_2)).trans hx126_2; replace hx126_3 := (HB.out.cell (World.block_lt_of_cell? w _ hx126_3)).trans hx126_3; replace hx126_4 := (HB.out.cell (World.block_lt_of_cell? w _ hx126_4)).trans hx126_4; replace p126 := eq_true p126; replace q126 := eq_true q126; have p127 : 0 ≤ ((ji45) : Int) := of_decide_eq_true as_; have q127 : (ji45) < (l0.length : Int) := of_decide_eq_true as_; obtain ⟨ad127, e127, hx127_0, hx127_1, hx127_2, hx127_3, hx127_4⟩ := at_T43 HR0.out (ji45) p127 q127; obtain rfl : ad116 = ad127 := (by injection e127); replace hx127_0 := (HB.out.cell (World.block_lt_of_cell? w _ hx127_0)).trans hx127_0; replace hx127_1 := (HB.out.cell (World.block_lt_of_cell? w _ hx127_1)).trans hx127_1; replace hx127_2 := (HB.out.cell (World.block_lt_of_cell? w _ hx127_2)).trans hx127_2; replace hx127_3 := (HB.out.cell (World.block_lt_of_cell? w _ hx127_3)).trans hx127_3; replace hx127_4 := (HB.out.cell (World.block_lt_of_cell? w _ hx127_4)).trans hx127_4; replace p127 := eq_true p127; replace q127 := eq_true q127))
                   repeat (go_quiet (fail); try go_wp2_with (fail))
                   go_ret2
                   exact ⟨by first | rfl | (simp [errW_none, errW_some] <;> rfl) | (simp only [← hji45]; first | rfl | (simp [errW_none, errW_some] <;> rfl)) | (simp [*, errW_none, errW_some] <;> rfl), bm2_ HB.out GE117.out GE124.out⟩
                  ·
                   rw [if_neg c48] at H
                   have c48b0 : (!(((rd_T43 l0 (ji45)).f0) == 0) || (!(((rd_T43 l0 (ji45)).f1) == 0) || (!(((rd_T43 l0 (ji45)).f2) == 0) || (!(((rd_T43 l0 (ji45)).f3) == 0))))) = false := by simpa using c48
                   clear c48; simp only [Option.some.injEq, Prod.mk.injEq] at H; obtain ⟨rfl, rfl⟩ := H; have hnb51 := NB117_124.out; have hnc51 := NB124_117.out; obtain ⟨⟨hcz52_0, hcz52_1, hcz52_2, hcz52_3, hcz52_4⟩, hfz52_0, hfz52_1, hfz52_2, hfz52_3, hfz52_4⟩ := blk5_ BK117.out; go_wp2_with ((go_at_call 18; (with_reducible refine (insn_Wide.calls ((rd_T43 l0 a1).f0) true _ A37.out).mono ?_); rintro e w' ⟨rfl, ⟨nd, rfl⟩⟩; (try first | exact ⟨rfl, _, World.drewN_drewN _ _ _⟩ | exact ⟨rfl, _, Eq.trans (World.drewN_drewN _ _ _) (congrArg (World.drewN _) (Nat.add_assoc _ _ _))⟩); have p126 : 0 ≤ ((ji45) : Int) := of_decide_eq_true as_; have q126 : (ji45) < (l0.length : Int) := of_decide_eq_true as_; obtain ⟨ad126, e126, hx126_0, hx126_1, hx126_2, hx126_3, hx126_4⟩ := at_T43 HR0.out (ji45) p126 q126; obtain rfl : ad116 = ad126 := (by injection e126); replace hx126_0 := (HB.out.cell (World.block_lt_of_cell? w _ hx126_0)).trans hx126_0; replace hx126_1 := (HB.out.cell (World.block_lt_of_cell? w _ hx126_1)).trans hx126_1; replace hx126_2 := (HB.out.cell (World.block_lt_of_cell? w _ hx126_2)).trans hx126_2; replace hx126_3 := (HB.out.cell (World.block_lt_of_cell? w _ hx126_3)).trans hx126_3; replace hx126_4 := (HB.out.cell (World.block_lt_of_cell? w _ hx126_4)).trans hx126_4; replace p126 := eq_true p126; replace q126 := eq_true q126; have p127 : 0 ≤ ((ji45) : Int) := of_decide_eq_true as_; have q127 : (ji45) < (l0.length : Int) := of_decide_eq_true as_; obtain ⟨ad127, e127, hx127_0, hx127_1, hx127_2, hx127_3, hx127_4⟩ := at_T43 HR0.out (ji45) p127 q127; obtain rfl : ad116 = ad127 := (by injection e127); replace hx127_0 := (HB.out.cell (World.block_lt_of_cell? w _ hx127_0)).trans hx127_0; replace hx127_1 := (HB.out.cell (World.block_lt_of_cell? w _ hx127_1)).trans hx127_1; replace hx127_2 := (HB.out.cell (World.block_lt_of_cell? w _ hx127_2)).trans hx127_2; replace hx127_3 := (HB.out.cell (World.block_lt_of_cell? w _ hx127_3)).trans hx127_3; replace hx127_4 := (HB.out.cell (World.block_lt_of_cell? w _ hx127_4)).trans hx127_4; replace p127 := eq_true p127; replace q127 := eq_true q127))
                   repeat (go_quiet (fail); try go_wp2_with (fail))
                   go_ret2
                   exact ⟨by first | rfl | (simp [errW_none, errW_some] <;> rfl) | (simp only [← hji45]; first | rfl | (simp [errW_none, errW_some] <;> rfl)) | (simp [*, errW_none, errW_some] <;> rfl), bm2_ HB.out GE117.out GE124.out⟩
                 ·
                  rw [if_neg c47] at H
                  exact absurd H (by simp)
                ·
                 rw [if_neg c46] at H
                 exact absurd H (by simp)
             ·
              replace c38 := Bool.eq_false_iff.mpr c38
              subst c38; rw [if_neg (show ¬ (false = true) by decide)] at H; simp only [Option.some.injEq, Prod.mk.injEq] at H; obtain ⟨rfl, rfl⟩ := H; have hnb53 := NB117_124.out; have hnc53 := NB124_117.out; obtain ⟨⟨hcz54_0, hcz54_1, hcz54_2, hcz54_3, hcz54_4⟩, hfz54_0, hfz54_1, hfz54_2, hfz54_3, hfz54_4⟩ := blk5_ BK117.out; go_wp2_with ((go_at_call 18; (with_reducible refine (insn_Wide.calls ((rd_T43 l0 a1).f0) false _ A37.out).mono ?_); rintro e w' ⟨rfl, ⟨nd, rfl⟩⟩; (try first | exact ⟨rfl, _, World.drewN_drewN _ _ _⟩ | exact ⟨rfl, _, Eq.trans (World.drewN_drewN _ _ _) (congrArg (World.drewN _) (Nat.add_assoc _ _ _))⟩)))
              go_ret2
              exact ⟨rr_, bm2_ HB.out GE117.out GE124.out⟩
      ·
       replace c9 := Bool.eq_false_iff.mpr c9
       subst c9; rw [if_neg (show ¬ (false = true) by decide)] at H; simp only [Option.some.injEq, Prod.mk.injEq] at H; obtain ⟨rfl, rfl⟩ := H; have p116 : 0 ≤ (a1 : Int) := of_decide_eq_true as_; have q116 : a1 < (l0.length : Int) := of_decide_eq_true as_; obtain ⟨ad116, e116, hx116_0, hx116_1, hx116_2, hx116_3, hx116_4⟩ := at_T43 (Kd.C_below HR0.out HB.out) a1 p116 q116
       cases e116
       replace p116 := eq_true p116; replace q116 := eq_true q116; go_wp2_with (first | ((with_reducible refine gate_dst (N := 6) rfl ?_); (try (refine gate_guard (by rfl) ?_; dsimp only)); refine box_event ?hg (N := 6) ?hd (cs := #[.int .u8 0, .int .u8 0, .int .u8 0, .int .i16 0, .int .i32 0]) (t := 43) ?hr ?_; (case hd => rfl); (case hg => rfl); (case hr => first | (go_simp; done) | (go_simp; rfl)); intro gb117 hg w55 hbox hb; have n_ : _ ∧ _ ∧ _ ∧ _ := ⟨k_ (below_step (bl_ HB.out) hb), k_ (hbox), k_ ((by rw [hg]; exact (below_size (bl_ HB.out)) : w.heap.size ≤ gb117)), k_ ((by rw [hg]; exact (below_size (bl_ HB.out)) : w.heap.size ≤ gb117))⟩; clear HB; obtain ⟨HB, BK117, GW117, GE117⟩ := n_; clear hb hbox hg; obtain ⟨⟨hcz56_0, hcz56_1, hcz56_2, hcz56_3, hcz56_4⟩, hfz56_0, hfz56_1, hfz56_2, hfz56_3, hfz56_4⟩ := blk5_ BK117.out) | (go_at_call 46; (with_reducible refine (insn_Known.calls kj2 ((rd_T43 l0 a1).f0) false _ A8.out).mono ?_); rintro e w' ⟨rfl, ⟨nd, rfl⟩⟩; (try first | exact ⟨rfl, _, World.drewN_drewN _ _ _⟩ | exact ⟨rfl, _, Eq.trans (World.drewN_drewN _ _ _) (congrArg (World.drewN _) (Nat.add_assoc _ _ _))⟩)))
       go_ret2
       exact ⟨rr_, bm_ HB.out GE117.out⟩
     ·
      rw [if_neg c7] at H
      exact absurd H (by simp)
    ·
     rw [if_neg c6] at H
     exact absurd H (by simp)

end Go.Proofs.Ytmijlibnembkaaa.PA
