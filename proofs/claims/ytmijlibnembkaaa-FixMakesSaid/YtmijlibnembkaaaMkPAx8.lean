-- Printed by wip/tools/extprint.py over the kit's printer, with contracts of this session's own. Lean checks it.
import Derived.Test.YtmijlibnembkaaaMkPAx0
import Derived.Test.YtmijlibnembkaaaMkPAx3
import Derived.Test.YtmijlibnembkaaaMkPAx6
namespace Go.Proofs.Ytmijlibnembkaaa.PA
open Go.RowKit Go.Proofs.YtmijlibnembkaaaW.PrintWords Go.Proofs.YtmijlibnembkaaaW.PrintLast Go.Proofs.YtmijlibnembkaaaW.PrintMore
attribute [local go_sem] max2_int min2_int max_two min_two max_three min_three max_four min_four   -- for this text's walks alone
set_option linter.unusedVariables false
set_option maxHeartbeats 8000000
set_option maxRecDepth 100000
set_option linter.unusedSimpArgs false

/-! ### shape_jumps: function 29 -/
def shape_jumps.j0 : Nat → Bool → Int → Int → Int → Int → Int → Option (Int × Bool)
 | 0, _, _, _, _, _, _ => none
 | k + 1, x8, x139000, x139001, x139002, x139003, x139004 => if x8 = true then (some (0, false)) else (if x139000 = 133 then (some (wrap64 (x139004), (x139002 == 1))) else (some (wrap64 (x139003), true)))
def shape_jumps.f (k : Nat) (a0_0 : Int) (a0_1 : Int) (a0_2 : Int) (a0_3 : Int) (a0_4 : Int) : Option (Int × Bool) := (insn_Class.f a0_0).bind fun t139 => (if t139 = 5 then (shape_jumps.j0 k (a0_0 == 149) a0_0 a0_1 a0_2 a0_3 a0_4) else (if t139 = 6 then (shape_jumps.j0 k (a0_0 == 149) a0_0 a0_1 a0_2 a0_3 a0_4) else (shape_jumps.j0 k true a0_0 a0_1 a0_2 a0_3 a0_4)))
theorem shape_jumps.mono_l : ∀ k, (∀ y0 y1 y2 y3 y4 y5, LeO (shape_jumps.j0 k y0 y1 y2 y3 y4 y5) (shape_jumps.j0 (k + 1) y0 y1 y2 y3 y4 y5))
 | 0 => fun _ _ _ _ _ _ r h => by simp [shape_jumps.j0] at h
 | k + 1 => by
  have ih0 := shape_jumps.mono_l k
  ·
   intro y0 y1 y2 y3 y4 y5
   unfold shape_jumps.j0
   repeat' (with_reducible first | apply ih0 | exact LeO.refl _ | exact LeO.none _ | refine LeO.ite ?_ ?_ | refine LeO.bind ?_ (fun _ => ?_))
theorem shape_jumps.mono : ∀ a0 a1 a2 a3 a4 k, LeO (shape_jumps.f k a0 a1 a2 a3 a4) (shape_jumps.f (k + 1) a0 a1 a2 a3 a4) := by
 intro a0 a1 a2 a3 a4 k; have ih0 := shape_jumps.mono_l k
 unfold shape_jumps.f
 repeat' (with_reducible first | apply ih0 | exact LeO.refl _ | exact LeO.none _ | refine LeO.ite ?_ ?_ | refine LeO.bind ?_ (fun _ => ?_))
theorem shape_jumps.calls (k : Nat) (a0_0 : Int) (a0_1 : Int) (a0_2 : Int) (a0_3 : Int) (a0_4 : Int) (r1 : Int) (r2 : Bool) (w : World) (h : shape_jumps.f k a0_0 a0_1 a0_2 a0_3 a0_4 = some (r1, r2)) :
  Calls Try.prog 29 #[.agg #[.int .u8 a0_0, .int .u8 a0_1, .int .u8 a0_2, .int .i16 a0_3, .int .i32 a0_4]] w fun e w' => e = .returned (.tuple #[.int .i64 r1, .bool r2]) ∧ Below w.heap.size w w' := by
 have hu43 := Try.underlying43; have HB := Aside0.mk (Below.refl w.heap.size w); have H : ((insn_Class.f a0_0).bind fun t139 => (if t139 = 5 then (shape_jumps.j0 k (a0_0 == 149) a0_0 a0_1 a0_2 a0_3 a0_4) else (if t139 = 6 then (shape_jumps.j0 k (a0_0 == 149) a0_0 a0_1 a0_2 a0_3 a0_4) else (shape_jumps.j0 k true a0_0 a0_1 a0_2 a0_3 a0_4)))) = some (r1, r2) := h; clear h; replace H := bs_ H; obtain ⟨t139, A2, H⟩ := H; (try dsimp only at H); have HC3 := Aside0.mk H; clear H; go_enter Try.func29, Try.ntmps29
 go_upto_region 2 with (first | ((with_reducible refine gate_dst (N := 1) rfl ?_); refine box_event ?hg (N := 1) ?hd (cs := #[.int .u8 a0_0, .int .u8 a0_1, .int .u8 a0_2, .int .i16 a0_3, .int .i32 a0_4]) (t := 43) ?hr ?_; (case hd => rfl); (case hg => rfl); (case hr => first | (go_simp; done) | (go_simp; rfl)); intro gb138 hg w4 hbox hb; have n_ : _ ∧ _ ∧ _ ∧ _ := ⟨k_ (below_step (bl_ HB.out) hb), k_ (hbox), k_ ((by rw [hg]; exact (below_size (bl_ HB.out)) : w.heap.size ≤ gb138)), k_ ((by rw [hg]; exact (below_size (bl_ HB.out)) : w.heap.size ≤ gb138))⟩; clear HB; obtain ⟨HB, BK138, GW138, GE138⟩ := n_; clear hb hbox hg; obtain ⟨⟨hcz5_0, hcz5_1, hcz5_2, hcz5_3, hcz5_4⟩, hfz5_0, hfz5_1, hfz5_2, hfz5_3, hfz5_4⟩ := blk5_ BK138.out) | (go_at_call 48; (with_reducible refine (insn_Class.calls a0_0 t139 _ A2.out).mono ?_); rintro e w' ⟨rfl, ⟨nd, rfl⟩⟩; (try first | exact ⟨rfl, _, World.drewN_drewN _ _ _⟩ | exact ⟨rfl, _, Eq.trans (World.drewN_drewN _ _ _) (congrArg (World.drewN _) (Nat.add_assoc _ _ _))⟩)))
 (try simp only [Act.put, List.setIfInBounds_toArray, List.set_cons_zero, List.set_cons_succ]); go_cut [8] (fun v8 wc => ∃ (kq : Nat) (x8_2 : Bool), v8 = .bool x8_2 ∧ Aside0 (shape_jumps.j0 kq x8_2 a0_0 a0_1 a0_2 a0_3 a0_4 = some (r1, r2)) ∧ Aside0 (kq ≤ k) ∧ Aside0 (wc.heap[gb138]? = some (.cells #[.int .u8 a0_0, .int .u8 a0_1, .int .u8 a0_2, .int .i16 a0_3, .int .i32 a0_4] 43 (0, 0))) ∧ Aside0 (Below w.heap.size w wc))
 case first =>
  have H := HC3.out; clear HC3
  by_cases c6 : t139 = 5
  ·
   rw [if_pos c6] at H
   have ⟨c6b0, c6b1⟩ := eqb_ c6; clear c6; (first | rw [c6b0] | (simp only [i64_w, i32_w]; rw [c6b0]) | skip); have H' := Aside0.mk H; clear H; obtain ⟨⟨hcz7_0, hcz7_1, hcz7_2, hcz7_3, hcz7_4⟩, hfz7_0, hfz7_1, hfz7_2, hfz7_3, hfz7_4⟩ := blk5_ BK138.out; go_wp2; go_meet
   case rel => exact ⟨_, ((a0_0 == 149)), eq_, H', ⟨by first | omega | exact Nat.le_refl _⟩, ⟨bk_ BK138.out⟩, ⟨bm_ HB.out GE138.out⟩⟩
  ·
   rw [if_neg c6] at H
   have ⟨c6b0, c6b1⟩ := nqb_ c6; (first | rw [c6b0] | (simp only [i64_w, i32_w]; rw [c6b0]) | skip)
   by_cases c8 : t139 = 6
   ·
    rw [if_pos c8] at H
    have ⟨c8b0, c8b1⟩ := eqb_ c8; clear c8; have H' := Aside0.mk H; clear H; obtain ⟨⟨hcz9_0, hcz9_1, hcz9_2, hcz9_3, hcz9_4⟩, hfz9_0, hfz9_1, hfz9_2, hfz9_3, hfz9_4⟩ := blk5_ BK138.out; go_wp2; go_meet
    case rel => exact ⟨_, ((a0_0 == 149)), eq_, H', ⟨by first | omega | exact Nat.le_refl _⟩, ⟨bk_ BK138.out⟩, ⟨bm_ HB.out GE138.out⟩⟩
   ·
    rw [if_neg c8] at H
    have ⟨c8b0, c8b1⟩ := nqb_ c8; have H' := Aside0.mk H; clear H; go_wp2; go_meet
    case rel => exact ⟨_, (true), eq_, H', ⟨by first | omega | exact Nat.le_refl _⟩, ⟨bk_ BK138.out⟩, ⟨bm_ HB.out GE138.out⟩⟩
 case rest =>
  clear HC3 hcz5_0 hcz5_1 hcz5_2 hcz5_3 hcz5_4 hfz5_0 hfz5_1 hfz5_2 hfz5_3 hfz5_4; obtain ⟨kq, x8_2, rfl, HA, HJ2, BK138, HB⟩ := hcut
  cases kq with
  | zero => exact absurd HA.out (by simp [shape_jumps.j0])
  | succ kj2 =>
   have H := HA.out; clear HA; simp only [shape_jumps.j0] at H
   by_cases c10 : x8_2 = true
   ·
    subst c10
    rw [if_pos rfl] at H; simp only [Option.some.injEq, Prod.mk.injEq] at H; obtain ⟨rfl, rfl⟩ := H; go_wp2; go_ret2
    exact ⟨rr_, bm_ HB.out GE138.out⟩
   ·
    replace c10 := Bool.eq_false_iff.mpr c10
    subst c10; rw [if_neg (show ¬ (false = true) by decide)] at H
    by_cases c11 : a0_0 = 133
    ·
     rw [if_pos c11] at H
     have ⟨c11b0, c11b1⟩ := eqb_ c11; clear c11; simp only [Option.some.injEq, Prod.mk.injEq] at H; obtain ⟨rfl, rfl⟩ := H; obtain ⟨⟨hcz12_0, hcz12_1, hcz12_2, hcz12_3, hcz12_4⟩, hfz12_0, hfz12_1, hfz12_2, hfz12_3, hfz12_4⟩ := blk5_ BK138.out; go_wp2
     repeat (go_quiet (fail); try go_wp2)
     go_ret2
     exact ⟨rr_, bm_ HB.out GE138.out⟩
    ·
     rw [if_neg c11] at H
     have ⟨c11b0, c11b1⟩ := nqb_ c11; simp only [Option.some.injEq, Prod.mk.injEq] at H; obtain ⟨rfl, rfl⟩ := H; obtain ⟨⟨hcz13_0, hcz13_1, hcz13_2, hcz13_3, hcz13_4⟩, hfz13_0, hfz13_1, hfz13_2, hfz13_3, hfz13_4⟩ := blk5_ BK138.out; go_wp2; go_ret2
     exact ⟨rr_, bm_ HB.out GE138.out⟩

/-! ### shape_target: function 30 -/
def shape_target.f (k : Nat) (l0 : List (S43)) (a1 : Int) : Option (Int × Bool) := if 0 ≤ a1 then (if a1 < (l0.length : Int) then ((shape_jumps.f k ((rd_T43 l0 a1).f0) ((rd_T43 l0 a1).f1) ((rd_T43 l0 a1).f2) ((rd_T43 l0 a1).f3) ((rd_T43 l0 a1).f4)).bind fun bt141 => (if bt141.2 = true then (if (wrap64 ((wrap64 (a1 + 1)) + bt141.1)) < 0 then (some (0, false)) else (if (wrap64 ((wrap64 (a1 + 1)) + bt141.1)) ≥ (l0.length : Int) then (some (0, false)) else (some (wrap64 ((wrap64 (a1 + 1)) + bt141.1), true)))) else (some (0, false)))) else (none)) else (none)
theorem shape_target.mono : ∀ a0 a1 k, LeO (shape_target.f k a0 a1) (shape_target.f (k + 1) a0 a1) := by
 intro a0 a1 k
 unfold shape_target.f
 repeat' (with_reducible first | apply shape_jumps.mono | exact LeO.refl _ | exact LeO.none _ | refine LeO.ite ?_ ?_ | refine LeO.bind ?_ (fun _ => ?_))
theorem shape_target.calls (k : Nat) (A0 : Option Addr) (c0 : Nat) (l0 : List (S43)) (a1 : Int) (r1 : Int) (r2 : Bool) (w : World) (hr0 : Kd.C k43 w A0 l0.length l0) (hc0 : l0.length ≤ c0) (h : shape_target.f k l0 a1 = some (r1, r2)) :
  Calls Try.prog 30 #[.slice A0 l0.length c0, .int .i64 a1] w fun e w' => e = .returned (.tuple #[.int .i64 r1, .bool r2]) ∧ Below w.heap.size w w' := by
 have hu43 := Try.underlying43; have HR0 := Aside0.mk hr0; have HC0 := Aside0.mk hc0; clear hr0 hc0; have HB := Aside0.mk (Below.refl w.heap.size w); have H : (if 0 ≤ a1 then (if a1 < (l0.length : Int) then ((shape_jumps.f k ((rd_T43 l0 a1).f0) ((rd_T43 l0 a1).f1) ((rd_T43 l0 a1).f2) ((rd_T43 l0 a1).f3) ((rd_T43 l0 a1).f4)).bind fun bt141 => (if bt141.2 = true then (if (wrap64 ((wrap64 (a1 + 1)) + bt141.1)) < 0 then (some (0, false)) else (if (wrap64 ((wrap64 (a1 + 1)) + bt141.1)) ≥ (l0.length : Int) then (some (0, false)) else (some (wrap64 ((wrap64 (a1 + 1)) + bt141.1), true)))) else (some (0, false)))) else (none)) else (none)) = some (r1, r2) := h; clear h
 by_cases c3 : 0 ≤ a1
 ·
  rw [if_pos c3] at H
  have c3b0 := decide_eq_true c3; clear c3
  by_cases c4 : a1 < (l0.length : Int)
  ·
   rw [if_pos c4] at H
   have c4b0 := decide_eq_true c4; clear c4; replace H := bs_ H; obtain ⟨⟨t141, t142⟩, A5, H⟩ := H; (try dsimp only at H)
   by_cases c6 : t142 = true
   ·
    subst c6
    rw [if_pos rfl] at H
    by_cases c7 : (wrap64 ((wrap64 (a1 + 1)) + t141)) < 0
    ·
     rw [if_pos c7] at H
     have c7b0 := decide_eq_true c7; clear c7; simp only [Option.some.injEq, Prod.mk.injEq] at H; obtain ⟨rfl, rfl⟩ := H; have p140 : 0 ≤ (a1 : Int) := of_decide_eq_true as_; have q140 : a1 < (l0.length : Int) := of_decide_eq_true as_; obtain ⟨ad140, e140, hx140_0, hx140_1, hx140_2, hx140_3, hx140_4⟩ := at_T43 HR0.out a1 p140 q140
     cases e140
     replace p140 := eq_true p140; replace q140 := eq_true q140; go_enter Try.func30, Try.ntmps30
     go_wp2_with (first | ((with_reducible refine gate_callee (f := 29) rfl ?_); refine goesL_ (some 14) rfl rfl Try.func29 (by kernel_rfl) rfl #[.agg #[.int .u8 ((rd_T43 l0 a1).f0), .int .u8 ((rd_T43 l0 a1).f1), .int .u8 ((rd_T43 l0 a1).f2), .int .i16 ((rd_T43 l0 a1).f3), .int .i32 ((rd_T43 l0 a1).f4)]] rfl am_ ?_; (with_reducible refine (shape_jumps.calls k ((rd_T43 l0 a1).f0) ((rd_T43 l0 a1).f1) ((rd_T43 l0 a1).f2) ((rd_T43 l0 a1).f3) ((rd_T43 l0 a1).f4) t141 true _ A5.out).mono ?_); rintro e w8 ⟨rfl, hb⟩; refine ⟨_, rfl, ?_⟩; have n0_ := Aside0.mk (below_step (bl_ HB.out) hb); clear HB; have HB := n0_; clear n0_; clear hb))
     go_ret2
     exact ⟨rr_, bl_ HB.out⟩
    ·
     rw [if_neg c7] at H
     have c7b0 := decide_eq_false c7; clear c7
     by_cases c9 : (wrap64 ((wrap64 (a1 + 1)) + t141)) ≥ (l0.length : Int)
     ·
      rw [if_pos c9] at H
      have c9b0 := decide_eq_true c9; clear c9; simp only [Option.some.injEq, Prod.mk.injEq] at H; obtain ⟨rfl, rfl⟩ := H; have p140 : 0 ≤ (a1 : Int) := of_decide_eq_true as_; have q140 : a1 < (l0.length : Int) := of_decide_eq_true as_; obtain ⟨ad140, e140, hx140_0, hx140_1, hx140_2, hx140_3, hx140_4⟩ := at_T43 HR0.out a1 p140 q140
      cases e140
      replace p140 := eq_true p140; replace q140 := eq_true q140; go_enter Try.func30, Try.ntmps30
      go_wp2_with (first | ((with_reducible refine gate_callee (f := 29) rfl ?_); refine goesL_ (some 14) rfl rfl Try.func29 (by kernel_rfl) rfl #[.agg #[.int .u8 ((rd_T43 l0 a1).f0), .int .u8 ((rd_T43 l0 a1).f1), .int .u8 ((rd_T43 l0 a1).f2), .int .i16 ((rd_T43 l0 a1).f3), .int .i32 ((rd_T43 l0 a1).f4)]] rfl am_ ?_; (with_reducible refine (shape_jumps.calls k ((rd_T43 l0 a1).f0) ((rd_T43 l0 a1).f1) ((rd_T43 l0 a1).f2) ((rd_T43 l0 a1).f3) ((rd_T43 l0 a1).f4) t141 true _ A5.out).mono ?_); rintro e w10 ⟨rfl, hb⟩; refine ⟨_, rfl, ?_⟩; have n0_ := Aside0.mk (below_step (bl_ HB.out) hb); clear HB; have HB := n0_; clear n0_; clear hb))
      go_ret2
      exact ⟨rr_, bl_ HB.out⟩
     ·
      rw [if_neg c9] at H
      have c9b0 := decide_eq_false c9; clear c9; simp only [Option.some.injEq, Prod.mk.injEq] at H; obtain ⟨rfl, rfl⟩ := H; have p140 : 0 ≤ (a1 : Int) := of_decide_eq_true as_; have q140 : a1 < (l0.length : Int) := of_decide_eq_true as_; obtain ⟨ad140, e140, hx140_0, hx140_1, hx140_2, hx140_3, hx140_4⟩ := at_T43 HR0.out a1 p140 q140
      cases e140
      replace p140 := eq_true p140; replace q140 := eq_true q140; go_enter Try.func30, Try.ntmps30
      go_wp2_with (first | ((with_reducible refine gate_callee (f := 29) rfl ?_); refine goesL_ (some 14) rfl rfl Try.func29 (by kernel_rfl) rfl #[.agg #[.int .u8 ((rd_T43 l0 a1).f0), .int .u8 ((rd_T43 l0 a1).f1), .int .u8 ((rd_T43 l0 a1).f2), .int .i16 ((rd_T43 l0 a1).f3), .int .i32 ((rd_T43 l0 a1).f4)]] rfl am_ ?_; (with_reducible refine (shape_jumps.calls k ((rd_T43 l0 a1).f0) ((rd_T43 l0 a1).f1) ((rd_T43 l0 a1).f2) ((rd_T43 l0 a1).f3) ((rd_T43 l0 a1).f4) t141 true _ A5.out).mono ?_); rintro e w11 ⟨rfl, hb⟩; refine ⟨_, rfl, ?_⟩; have n0_ := Aside0.mk (below_step (bl_ HB.out) hb); clear HB; have HB := n0_; clear n0_; clear hb))
      go_ret2
      exact ⟨rr_, bl_ HB.out⟩
   ·
    replace c6 := Bool.eq_false_iff.mpr c6
    subst c6; rw [if_neg (show ¬ (false = true) by decide)] at H; simp only [Option.some.injEq, Prod.mk.injEq] at H; obtain ⟨rfl, rfl⟩ := H; have p140 : 0 ≤ (a1 : Int) := of_decide_eq_true as_; have q140 : a1 < (l0.length : Int) := of_decide_eq_true as_; obtain ⟨ad140, e140, hx140_0, hx140_1, hx140_2, hx140_3, hx140_4⟩ := at_T43 HR0.out a1 p140 q140
    cases e140
    replace p140 := eq_true p140; replace q140 := eq_true q140; go_enter Try.func30, Try.ntmps30
    go_wp2_with (first | ((with_reducible refine gate_callee (f := 29) rfl ?_); refine goesL_ (some 14) rfl rfl Try.func29 (by kernel_rfl) rfl #[.agg #[.int .u8 ((rd_T43 l0 a1).f0), .int .u8 ((rd_T43 l0 a1).f1), .int .u8 ((rd_T43 l0 a1).f2), .int .i16 ((rd_T43 l0 a1).f3), .int .i32 ((rd_T43 l0 a1).f4)]] rfl am_ ?_; (with_reducible refine (shape_jumps.calls k ((rd_T43 l0 a1).f0) ((rd_T43 l0 a1).f1) ((rd_T43 l0 a1).f2) ((rd_T43 l0 a1).f3) ((rd_T43 l0 a1).f4) t141 false _ A5.out).mono ?_); rintro e w12 ⟨rfl, hb⟩; refine ⟨_, rfl, ?_⟩; have n0_ := Aside0.mk (below_step (bl_ HB.out) hb); clear HB; have HB := n0_; clear n0_; clear hb))
    go_ret2
    exact ⟨rr_, bl_ HB.out⟩
  ·
   rw [if_neg c4] at H
   exact absurd H (by simp)
 ·
  rw [if_neg c3] at H
  exact absurd H (by simp)

/-! ### slices_Sort_int: function 51 -/
def slices_Sort_int.f (l0 : List Int) : Option (List Int) := if l0.length = 0 then none else if 4611686018427387904 ≤ l0.length then none else some (Go.Proofs.YtmijlibnembkaaaX.isort l0)
theorem slices_Sort_int.calls (P0_ : Nat → Prop) (u9000_ : Value) (l0 : List Int) (r : List Int) (w0 w : World) (hB : Below w0.heap.size w0 w) (ho0 : Kd.R (Kd.int .i64) 3 w w0.heap.size P0_ u9000_ l0) (h : slices_Sort_int.f l0 = some r) :
  Calls Try.prog 51 #[u9000_] w fun e w' => e = .returned (.tuple #[]) ∧ Kd.R (Kd.int .i64) 3 w' w0.heap.size (fun k_ => (P0_ k_ ∨ w.heap.size ≤ k_)) u9000_ r ∧ Below w0.heap.size w0 w' ∧ Kept w w' (fun k_ => P0_ k_) := by
 by_cases h0 : l0.length = 0
 ·
  simp [slices_Sort_int.f, h0] at h
 by_cases h1 : 4611686018427387904 ≤ l0.length
 ·
  simp [slices_Sort_int.f, h0, h1] at h
 simp only [slices_Sort_int.f, if_neg h0, if_neg h1, Option.some.injEq] at h; rw [← Go.Proofs.YtmijlibnembkaaaX.merge_isort] at h; subst h; obtain ⟨hok, hown⟩ := Go.Proofs.YtmijlibnembkaaaX.R_int_own ho0; obtain ⟨g, cap, cur, rfl, hbase, hb, hn, hcap, hsz, htk⟩ := Go.Proofs.YtmijlibnembkaaaX.own_some hown h0; have hlt : g < w.heap.size := (Array.getElem?_eq_some_iff.1 hb).1; have hH := holds_of_blockI (ss := l0) hb (by rw [← htk, Nat.mul_one]); refine (Try.slices_Sort_int g 0 cap l0 w hH hlt (by omega)).mono ?_; rintro e w' ⟨rfl, n, os, rfl⟩; have hl : (l0.mergeSort fun x y => decide (x ≤ y)).length = l0.length := List.length_mergeSort _; have hg := grownBy_sortedI (w := w) (g := g) (n := n) (os := os) (l0.mergeSort fun x y => decide (x ≤ y)).toArray; refine ⟨rfl, Go.Proofs.YtmijlibnembkaaaX.R_int_mk (fun b hb' => .inl (hok b hb')) ?_, hB.grown hg hB.size (fun k hk => by cases hk; exact hbase), Go.Proofs.YtmijlibnembkaaaX.kept_grown hg (hok g rfl)⟩; rw [hl]; exact ownsRow_sortedI hl hbase hb hn hcap (by simpa using hsz)

/-! ### slices_Compact_int: function 52 -/
def slices_Compact_int.f (l0 : List Int) : Option (List Int) := if l0.length = 0 then none else if 4611686018427387904 ≤ l0.length then none else some (Go.Proofs.YtmijlibnembkaaaX.dd l0)
theorem slices_Compact_int.calls (P0_ : Nat → Prop) (u9000_ : Value) (l0 : List Int) (r : List Int) (w0 w : World) (hB : Below w0.heap.size w0 w) (ho0 : Kd.R (Kd.int .i64) 3 w w0.heap.size P0_ u9000_ l0) (h : slices_Compact_int.f l0 = some r) :
  Calls Try.prog 52 #[u9000_] w fun e w' => ∃ v0_ : Value, e = .returned (v0_) ∧ Kd.R (Kd.int .i64) 3 w' w0.heap.size (fun k_ => (P0_ k_ ∨ w.heap.size ≤ k_)) v0_ r ∧ Below w0.heap.size w0 w' ∧ Kept w w' (fun k_ => P0_ k_) := by
 by_cases h0 : l0.length = 0
 ·
  simp [slices_Compact_int.f, h0] at h
 by_cases h1 : 4611686018427387904 ≤ l0.length
 ·
  simp [slices_Compact_int.f, h0, h1] at h
 simp only [slices_Compact_int.f, if_neg h0, if_neg h1, Option.some.injEq] at h; rw [← Go.Proofs.YtmijlibnembkaaaX.compact_dd] at h; subst h; obtain ⟨hok, hown⟩ := Go.Proofs.YtmijlibnembkaaaX.R_int_own ho0; obtain ⟨g, cap, cur, rfl, hbase, hb, hn, hcap, hsz, htk⟩ := Go.Proofs.YtmijlibnembkaaaX.own_some hown h0; have hlt : g < w.heap.size := (Array.getElem?_eq_some_iff.1 hb).1; have hH := holds_of_blockI (ss := l0) hb (by rw [← htk, Nat.mul_one]); refine (Try.slices_Compact_int g 0 cap l0 w hH (by omega) hn).mono ?_; rintro e w' ⟨rfl, q, rfl⟩; have hl : (Lib.compact l0).length ≤ l0.length := by unfold Lib.compact Lib.compactUpTo; rw [List.length_map]; exact Nat.le_trans (List.length_filter_le _ _) (by simp)
 have hg := Go.Proofs.YtmijlibnembkaaaX.grownBy_putRow (enc := Value.int .i64) (w := w) (g := g) (q := q) (Lib.compact l0 ++ List.replicate (l0.length - (Lib.compact l0).length) 0).toArray; refine ⟨_, rfl, Go.Proofs.YtmijlibnembkaaaX.R_int_mk (fun b hb' => .inl (hok b hb')) ?_, hB.grown hg hB.size (fun k hk => by cases hk; exact hbase), Go.Proofs.YtmijlibnembkaaaX.kept_grown hg (hok g rfl)⟩; have := Lib.ownsRow_putRow (q := q) (k := (Lib.compact l0).length) (ys := Lib.compact l0 ++ List.replicate (l0.length - (Lib.compact l0).length) 0) hown (by simp; omega) hl
 simpa using this

/-! ### shape_Parts: function 28 -/
def shape_Parts.l0 : Nat → List (S43) → List Int → List Bool → Int → Int → Option (List Int)
 | 0, _, _, _, _, _ => none
 | k + 1, x0, x3, x13, x14, x15 => if x15 < x14 then (if 0 ≤ x15 then (if x15 < (x13.length : Int) then ((shape_target.f k x0 x15).bind fun bt150 => (if rdOf false x13 x15 = true then (if bt150.2 = true then (if x15 < (x0.length : Int) then (if ((rd_T43 x0 x15).f0) = 133 then (if x3.length < 17592186044416 then (shape_Parts.l0 k x0 (x3 ++ [bt150.1]) x13 x14 (wrap64 (x15 + 1))) else (none)) else (shape_Parts.l0 k x0 x3 x13 x14 (wrap64 (x15 + 1)))) else (none)) else (shape_Parts.l0 k x0 x3 x13 x14 (wrap64 (x15 + 1)))) else (shape_Parts.l0 k x0 x3 x13 x14 (wrap64 (x15 + 1))))) else (none)) else (none)) else ((slices_Sort_int.f x3).bind fun t156 => ((slices_Compact_int.f t156).bind fun t157 => (some t157)))
def shape_Parts.f (k : Nat) (l0 : List (S43)) : Option (List Int) := if (l0.length : Int) = 0 then (some ([] : List Int)) else ((shape_Starts.f k l0).bind fun t146 => (shape_Parts.l0 k l0 (([0] : List Int)) t146 (t146.length : Int) 0))
theorem shape_Parts.mono_l : ∀ k, (∀ y0 y1 y2 y3 y4, LeO (shape_Parts.l0 k y0 y1 y2 y3 y4) (shape_Parts.l0 (k + 1) y0 y1 y2 y3 y4))
 | 0 => fun _ _ _ _ _ r h => by simp [shape_Parts.l0] at h
 | k + 1 => by
  have ih0 := shape_Parts.mono_l k
  ·
   intro y0 y1 y2 y3 y4
   unfold shape_Parts.l0
   repeat' (with_reducible first | apply ih0 | apply shape_Starts.mono | apply shape_target.mono | exact LeO.refl _ | exact LeO.none _ | refine LeO.ite ?_ ?_ | refine LeO.bind ?_ (fun _ => ?_))
theorem shape_Parts.mono : ∀ a0 k, LeO (shape_Parts.f k a0) (shape_Parts.f (k + 1) a0) := by
 intro a0 k; have ih0 := shape_Parts.mono_l k
 unfold shape_Parts.f
 repeat' (with_reducible first | apply ih0 | apply shape_Starts.mono | apply shape_target.mono | exact LeO.refl _ | exact LeO.none _ | refine LeO.ite ?_ ?_ | refine LeO.bind ?_ (fun _ => ?_))
theorem shape_Parts.calls (k : Nat) (A0 : Option Addr) (c0 : Nat) (l0 : List (S43)) (r : List Int) (w : World) (hr0 : Kd.C k43 w A0 l0.length l0) (hc0 : l0.length ≤ c0) (h : shape_Parts.f k l0 = some r) :
  Calls Try.prog 28 #[.slice A0 l0.length c0] w fun e w' => ∃ v0_ : Value, e = .returned (v0_) ∧ Kd.R (Kd.int .i64) 3 w' w.heap.size (fun _ => True) v0_ r ∧ Below w.heap.size w w' := by
 have HR0 := Aside0.mk hr0; have HC0 := Aside0.mk hc0; clear hr0 hc0; have HB := Aside0.mk (Below.refl w.heap.size w); have H : (if (l0.length : Int) = 0 then (some ([] : List Int)) else ((shape_Starts.f k l0).bind fun t146 => (shape_Parts.l0 k l0 (([0] : List Int)) t146 (t146.length : Int) 0))) = some r := h; clear h
 by_cases c2 : (l0.length : Int) = 0
 ·
  rw [if_pos c2] at H
  have ⟨c2b0, c2b1⟩ := eqb_ c2; clear c2; obtain rfl := Option.some.inj H; go_enter Try.func28, Try.ntmps28
  go_wp2; go_ret
  exact ⟨_, rr_, by first | exact Kd.R_nil _ _ _ _ _ | exact Kd.N_nil _ _ _ _ _ | exact Kd.V_nil _ _ _ _ _ | exact Kd.Q_nil _ _ _ _ _ | exact Kd.S_nil _ _ _ _ _, bl_ HB.out⟩
 ·
  rw [if_neg c2] at H
  have ⟨c2b0, c2b1⟩ := nqb_ c2; have c2b2 : ¬ (l0 = []) := fun h_ => c2 (by rw [h_]; rfl)
  obtain ⟨y143, hy143⟩ : ∃ y_ : List Int, y_ = (([0] : List Int)) := ⟨_, rfl⟩; (first | rw [Option.bind_some, ← hy143] at H | rw [Option.bind_some] at H | rw [← hy143] at H | skip); have Ny143 := Aside0.mk hy143; clear hy143; replace H := bs_ H; obtain ⟨t146, A3, H⟩ := H; (try dsimp only at H); have H' := Aside0.mk H; clear H; go_enter Try.func28, Try.ntmps28
  go_wp2_with (first | ((with_reducible refine gate_dst (N := 11) rfl ?_); refine Kd.R_lit (Kd.int .i64) _ 3 ?hg (N := 11) ?hd (xs := ([0] : List Int)) (inner := [.int .i64 0]) (ok := fun _ => True) (okp := fun _ => True) ?hr ?hp (fun _ hk => hk) trivial (Below.refl _ _) (Nat.le_refl _) (by simp) ?_; (case hd => rfl); (case hg => rfl); (case hr => first | (go_simp; done) | (go_simp; rfl)); (case hp => exact (Reps.one (show Kd.M (Kd.int .i64) _ _ _ 0 [.int .i64 0] from rfl) (Reps.none _ _))); intro v144 w4 ho5 hb hg_ hnew_; clear hg_ hnew_; (first | rw [← Ny143.out] at ho5 | (simp only [Int.reduceToNat] at ho5; rw [← Ny143.out] at ho5)); have n_ : _ ∧ _ := ⟨k_ (Kd.R_lower ho5 (below_size (bl_ HB.out))), k_ (below_step (bl_ HB.out) hb)⟩; clear HB; obtain ⟨HO145, HB⟩ := n_; clear hb ho5) | ((with_reducible refine gate_callee (f := 22) rfl ?_); refine goesL_ (some 13) rfl rfl Try.func22 (by kernel_rfl) rfl #[.slice A0 l0.length c0] rfl am_ ?_; (with_reducible refine (shape_Starts.calls k _ _ l0 t146 _ ?side1 ?side2 A3.out).mono ?_); (case side1 => exact cb_ (Kd.C_below HR0.out HB.out)); (case side2 => exact HC0.out); rintro e w6 ⟨v147, rfl, ho0, hb⟩; refine ⟨_, rfl, ?_⟩; have n_ : _ ∧ _ ∧ _ := ⟨k_ (Kd.R_below (mv_ HO145.out) hb), k_ (Kd.R_lower ho0 (below_size (bl_ HB.out))), k_ (below_step (bl_ HB.out) hb)⟩; clear HO145 HB; obtain ⟨HO145, HO148, HB⟩ := n_; clear hb; clear ho0; obtain ⟨Ao7, co7, eo7⟩ := Kd.R_slice HO148.out; subst eo7))
  go_loopg [3, 15] k (fun kq v3 v15 w' => ∃ (x3_1 : List Int) (x15_1 : Int), v15 = .int .i64 x15_1 ∧ Aside0 (shape_Parts.l0 kq l0 x3_1 t146 (t146.length : Int) x15_1 = some r) ∧ Aside0 (kq ≤ k) ∧ Aside0 (Kd.R (Kd.int .i64) 3 w' w.heap.size (fun _ => True) v3 x3_1) ∧ Aside0 (Kd.R Kd.bool 4 w' w.heap.size (fun _ => True) (.slice Ao7 t146.length co7) t146) ∧ Aside0 (Below w.heap.size w w'))
  case atStart => exact ⟨(y143), (0), eq_, H', ⟨Nat.le_refl _⟩, ⟨mv_ HO145.out⟩, ⟨mv_ HO148.out⟩, ⟨bl_ HB.out⟩⟩
  case round =>
   clear H'; clear c2 c2b0 c2b1 c2b2; obtain ⟨x3_1, x15_1, rfl, HA, HK1, HO_3, HO_13, HB⟩ := hrel
   cases gk with
   | zero => exact absurd HA.out (by simp [shape_Parts.l0])
   | succ k1 =>
    have H := HA.out; clear HA; simp only [shape_Parts.l0] at H
    by_cases c8 : x15_1 < (t146.length : Int)
    ·
     rw [if_pos c8] at H
     have c8b0 := decide_eq_true c8; clear c8
     by_cases c9 : 0 ≤ x15_1
     ·
      rw [if_pos c9] at H
      have c9b0 := decide_eq_true c9; clear c9
      by_cases c10 : x15_1 < (t146.length : Int)
      ·
       rw [if_pos c10] at H
       have c10b0 := decide_eq_true c10; clear c10; replace H := bs_ H; obtain ⟨⟨t150, t151⟩, A11, H⟩ := H; (try dsimp only at H); obtain ⟨bq12, hbq12⟩ : ∃ b_ : Bool, b_ = (rdOf false t146 x15_1) := ⟨_, rfl⟩; rw [← hbq12] at H; have Nbq12 := Aside0.mk hbq12; clear hbq12
       by_cases c13 : bq12 = true
       ·
        subst c13
        rw [if_pos rfl] at H
        by_cases c14 : t151 = true
        ·
         subst c14
         rw [if_pos rfl] at H
         by_cases c15 : x15_1 < (l0.length : Int)
         ·
          rw [if_pos c15] at H
          have c15b0 := decide_eq_true c15; clear c15
          by_cases c16 : ((rd_T43 l0 x15_1).f0) = 133
          ·
           rw [if_pos c16] at H
           have ⟨c16b0, c16b1⟩ := eqb_ c16; clear c16
           by_cases c17 : x3_1.length < 17592186044416
           ·
            rw [if_pos c17] at H
            have LMc17 := Aside0.mk c17; clear c17; obtain ⟨y153, hy153⟩ : ∃ y_ : List Int, y_ = (x3_1 ++ [t150]) := ⟨_, rfl⟩; (first | rw [Option.bind_some, ← hy153] at H | rw [Option.bind_some] at H | rw [← hy153] at H | skip); have Ny153 := Aside0.mk hy153; clear hy153; have H' := Aside0.mk H; clear H; have p149 : 0 ≤ (x15_1 : Int) := of_decide_eq_true as_; have q149 : x15_1 < (t146.length : Int) := of_decide_eq_true as_; obtain ⟨ad149, e149, hx149_0⟩ := Kd.at_bool (Kd.R_reads' HO_13.out).2.2 x15_1 p149 q149; (try rw [← Nbq12.out] at hx149_0)
            cases e149
            replace p149 := eq_true p149; replace q149 := eq_true q149; go_wp2_with (first | ((with_reducible refine gate_callee (f := 30) rfl ?_); refine goesL_ (some 23) rfl rfl Try.func30 (by kernel_rfl) rfl #[.slice A0 l0.length c0, .int .i64 x15_1] rfl am_ ?_; (with_reducible refine (shape_target.calls k1 _ _ l0 x15_1 t150 true _ ?side1 ?side2 A11.out).mono ?_); (case side1 => exact cb_ (Kd.C_below HR0.out HB.out)); (case side2 => exact HC0.out); rintro e w18 ⟨rfl, hb⟩; refine ⟨_, rfl, ?_⟩; have n_ : _ ∧ _ ∧ _ := ⟨k_ (Kd.R_below (mv_ HO_3.out) hb), k_ (Kd.R_below (mv_ HO_13.out) hb), k_ (below_step (bl_ HB.out) hb)⟩; clear HO_3 HO_13 HB; obtain ⟨HO_3, HO_13, HB⟩ := n_; clear hb; have p152 : 0 ≤ (x15_1 : Int) := of_decide_eq_true as_; have q152 : x15_1 < (l0.length : Int) := of_decide_eq_true as_; obtain ⟨ad152, e152, hx152_0, hx152_1, hx152_2, hx152_3, hx152_4⟩ := at_T43 (Kd.C_below HR0.out HB.out) x15_1 p152 q152; cases e152; replace p152 := eq_true p152; replace q152 := eq_true q152) | ((with_reducible refine gate_builtin (b := .append) (xs := #[.tmp 38, .tmp 40]) rfl ?_); at_builtin; refine Kd.R_append (Kd.int .i64) (w0 := w) w.heap.size rfl (.tmp 38) (.tmp 40) 52 3 (.int .i64 0) 8 rfl Try.underlying52 info3 rfl (by decide) (by omega) u3 x3_1 t150 [.int .i64 t150] (fun _ => True) (fun _ => False) rfl rfl ?aP (fun _ hk => hk.elim) ?aF ?aO ?aB ?aS ?aL ?_; (case aP => exact rfl); (case aB => exact (bl_ HB.out)); (case aF => exact (fun _ _ => trivial)); (case aO => exact (mv_ HO_3.out)); (case aS => exact (below_size (bl_ HB.out))); (case aL => have := LMc17.out; omega); intro v154 w19 ho hb hg hat; rw [← Ny153.out] at ho; have n_ : _ ∧ _ ∧ _ := ⟨k_ (Kd.R_over' (mv_ HO_13.out) (Kd.R_typed (mv_ HO_3.out)) (by decide) hg), k_ (hb), k_ (ho)⟩; clear HO_13 HB HO_3; obtain ⟨HO_13, HB, HO155⟩ := n_; clear ho hb hg hat))
            go_roundg k1
            case measure => have := HK1.out; omega
            case rel => exact ⟨(y153), (wrap64 (x15_1 + 1)), eq_, H', ⟨by have := HK1.out; omega⟩, ⟨mv_ HO155.out⟩, ⟨mv_ HO_13.out⟩, ⟨bl_ HB.out⟩⟩
           ·
            rw [if_neg c17] at H
            exact absurd H (by simp)
          ·
           rw [if_neg c16] at H
           have ⟨c16b0, c16b1⟩ := nqb_ c16; have H' := Aside0.mk H; clear H; have p149 : 0 ≤ (x15_1 : Int) := of_decide_eq_true as_; have q149 : x15_1 < (t146.length : Int) := of_decide_eq_true as_; obtain ⟨ad149, e149, hx149_0⟩ := Kd.at_bool (Kd.R_reads' HO_13.out).2.2 x15_1 p149 q149; (try rw [← Nbq12.out] at hx149_0)
           cases e149
           replace p149 := eq_true p149; replace q149 := eq_true q149; go_wp2_with (first | ((with_reducible refine gate_callee (f := 30) rfl ?_); refine goesL_ (some 23) rfl rfl Try.func30 (by kernel_rfl) rfl #[.slice A0 l0.length c0, .int .i64 x15_1] rfl am_ ?_; (with_reducible refine (shape_target.calls k1 _ _ l0 x15_1 t150 true _ ?side1 ?side2 A11.out).mono ?_); (case side1 => exact cb_ (Kd.C_below HR0.out HB.out)); (case side2 => exact HC0.out); rintro e w20 ⟨rfl, hb⟩; refine ⟨_, rfl, ?_⟩; have n_ : _ ∧ _ ∧ _ := ⟨k_ (Kd.R_below (mv_ HO_3.out) hb), k_ (Kd.R_below (mv_ HO_13.out) hb), k_ (below_step (bl_ HB.out) hb)⟩; clear HO_3 HO_13 HB; obtain ⟨HO_3, HO_13, HB⟩ := n_; clear hb; have p152 : 0 ≤ (x15_1 : Int) := of_decide_eq_true as_; have q152 : x15_1 < (l0.length : Int) := of_decide_eq_true as_; obtain ⟨ad152, e152, hx152_0, hx152_1, hx152_2, hx152_3, hx152_4⟩ := at_T43 (Kd.C_below HR0.out HB.out) x15_1 p152 q152; cases e152; replace p152 := eq_true p152; replace q152 := eq_true q152))
           go_roundg k1
           case measure => have := HK1.out; omega
           case rel => exact ⟨(x3_1), (wrap64 (x15_1 + 1)), eq_, H', ⟨by have := HK1.out; omega⟩, ⟨mv_ HO_3.out⟩, ⟨mv_ HO_13.out⟩, ⟨bl_ HB.out⟩⟩
         ·
          rw [if_neg c15] at H
          exact absurd H (by simp)
        ·
         replace c14 := Bool.eq_false_iff.mpr c14
         subst c14; rw [if_neg (show ¬ (false = true) by decide)] at H; have H' := Aside0.mk H; clear H; have p149 : 0 ≤ (x15_1 : Int) := of_decide_eq_true as_; have q149 : x15_1 < (t146.length : Int) := of_decide_eq_true as_; obtain ⟨ad149, e149, hx149_0⟩ := Kd.at_bool (Kd.R_reads' HO_13.out).2.2 x15_1 p149 q149; (try rw [← Nbq12.out] at hx149_0)
         cases e149
         replace p149 := eq_true p149; replace q149 := eq_true q149; go_wp2_with (first | ((with_reducible refine gate_callee (f := 30) rfl ?_); refine goesL_ (some 23) rfl rfl Try.func30 (by kernel_rfl) rfl #[.slice A0 l0.length c0, .int .i64 x15_1] rfl am_ ?_; (with_reducible refine (shape_target.calls k1 _ _ l0 x15_1 t150 false _ ?side1 ?side2 A11.out).mono ?_); (case side1 => exact cb_ (Kd.C_below HR0.out HB.out)); (case side2 => exact HC0.out); rintro e w21 ⟨rfl, hb⟩; refine ⟨_, rfl, ?_⟩; have n_ : _ ∧ _ ∧ _ := ⟨k_ (Kd.R_below (mv_ HO_3.out) hb), k_ (Kd.R_below (mv_ HO_13.out) hb), k_ (below_step (bl_ HB.out) hb)⟩; clear HO_3 HO_13 HB; obtain ⟨HO_3, HO_13, HB⟩ := n_; clear hb))
         go_roundg k1
         case measure => have := HK1.out; omega
         case rel => exact ⟨(x3_1), (wrap64 (x15_1 + 1)), eq_, H', ⟨by have := HK1.out; omega⟩, ⟨mv_ HO_3.out⟩, ⟨mv_ HO_13.out⟩, ⟨bl_ HB.out⟩⟩
       ·
        replace c13 := Bool.eq_false_iff.mpr c13
        subst c13; rw [if_neg (show ¬ (false = true) by decide)] at H; have H' := Aside0.mk H; clear H; have p149 : 0 ≤ (x15_1 : Int) := of_decide_eq_true as_; have q149 : x15_1 < (t146.length : Int) := of_decide_eq_true as_; obtain ⟨ad149, e149, hx149_0⟩ := Kd.at_bool (Kd.R_reads' HO_13.out).2.2 x15_1 p149 q149; (try rw [← Nbq12.out] at hx149_0)
        cases e149
        replace p149 := eq_true p149; replace q149 := eq_true q149; go_wp2_with (first | ((with_reducible refine gate_callee (f := 30) rfl ?_); refine goesL_ (some 23) rfl rfl Try.func30 (by kernel_rfl) rfl #[.slice A0 l0.length c0, .int .i64 x15_1] rfl am_ ?_; (with_reducible refine (shape_target.calls k1 _ _ l0 x15_1 t150 t151 _ ?side1 ?side2 A11.out).mono ?_); (case side1 => exact cb_ (Kd.C_below HR0.out HB.out)); (case side2 => exact HC0.out); rintro e w22 ⟨rfl, hb⟩; refine ⟨_, rfl, ?_⟩; have n_ : _ ∧ _ ∧ _ := ⟨k_ (Kd.R_below (mv_ HO_3.out) hb), k_ (Kd.R_below (mv_ HO_13.out) hb), k_ (below_step (bl_ HB.out) hb)⟩; clear HO_3 HO_13 HB; obtain ⟨HO_3, HO_13, HB⟩ := n_; clear hb))
        go_roundg k1
        case measure => have := HK1.out; omega
        case rel => exact ⟨(x3_1), (wrap64 (x15_1 + 1)), eq_, H', ⟨by have := HK1.out; omega⟩, ⟨mv_ HO_3.out⟩, ⟨mv_ HO_13.out⟩, ⟨bl_ HB.out⟩⟩
      ·
       rw [if_neg c10] at H
       exact absurd H (by simp)
     ·
      rw [if_neg c9] at H
      exact absurd H (by simp)
    ·
     rw [if_neg c8] at H
     have c8b0 := decide_eq_false c8; clear c8; replace H := bs_ H; obtain ⟨t156, A23, H⟩ := H; (try dsimp only at H); replace H := bs_ H; obtain ⟨t157, A24, H⟩ := H; (try dsimp only at H); obtain rfl := Option.some.inj H; obtain ⟨Ao25, co25, eo25⟩ := Kd.R_slice HO_3.out; subst eo25; go_wp2_with (first | ((with_reducible refine gate_callee (f := 51) rfl ?_); refine goesL_ (some 44) rfl rfl Try.func51 (by kernel_rfl) rfl #[.slice Ao25 x3_1.length co25] rfl am_ ?_; (with_reducible refine (slices_Sort_int.calls (fun k_ => some k_ = (.slice Ao25 x3_1.length co25 : Value).ownBlock) (.slice Ao25 x3_1.length co25) x3_1 t156 w _ ?side1 ?side2 A23.out).mono ?_); (case side1 => repeat (first | (with_reducible first | exact HB.out | apply below_alloc | apply pw_below_drewN | apply below_drew1) | exact HB.out)); (case side2 => exact Kd.R_tight rfl HO_3.out); rintro e w26 ⟨rfl, hy0, hb, hkp⟩; refine ⟨_, rfl, ?_⟩; have n_ : _ ∧ _ ∧ _ := ⟨k_ (Kd.R_reok rfl hy0 (fun k_ e_ => HO_3.out.1 k_ e_)), k_ (Kd.R_mono (ok' := fun k_ => True) (Kd.R_keptB ((Kd.R_apart' HO_13.out (Kd.R_typed HO_3.out) (by decide))) hkp (fun k_ hk_ hs_ => (hk_.2) hs_)) (fun k_ hk_ => trivial)), k_ (hb)⟩; clear HO_3 HO_13 HB; obtain ⟨HO_3, HO_13, HB⟩ := n_; clear hb; clear hkp; clear hy0) | ((with_reducible refine gate_callee (f := 52) rfl ?_); refine goesL_ (some 46) rfl rfl Try.func52 (by kernel_rfl) rfl #[.slice Ao25 x3_1.length co25] rfl am_ ?_; (with_reducible refine (slices_Compact_int.calls (fun k_ => some k_ = (.slice Ao25 x3_1.length co25 : Value).ownBlock) (.slice Ao25 x3_1.length co25) t156 t157 w _ ?side1 ?side2 A24.out).mono ?_); (case side1 => repeat (first | (with_reducible first | exact HB.out | apply below_alloc | apply pw_below_drewN | apply below_drew1) | exact HB.out)); (case side2 => exact Kd.R_tight rfl HO_3.out); rintro e w27 ⟨v158, rfl, ho0, hb, hkp⟩; refine ⟨_, rfl, ?_⟩; have n_ : _ ∧ _ ∧ _ := ⟨k_ (Kd.R_mono (ok' := fun k_ => True) (Kd.R_keptB ((Kd.R_apart' HO_13.out (Kd.R_typed HO_3.out) (by decide))) hkp (fun k_ hk_ hs_ => (hk_.2) hs_)) (fun k_ hk_ => trivial)), k_ (Kd.R_mono (ok' := fun k_ => True) ho0 (fun k_ hk_ => trivial)), k_ (hb)⟩; clear HO_13 HB HO_3; obtain ⟨HO_13, HO159, HB⟩ := n_; clear hb; clear hkp; clear ho0))
     go_ret
     exact ⟨_, rr_, mv_ HO159.out, bl_ HB.out⟩

end Go.Proofs.Ytmijlibnembkaaa.PA
