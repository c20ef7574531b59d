-- Printed by wip/tools/extprint.py over the kit's printer, with contracts of this session's own. Lean checks it.
import Derived.Test.YtmijlibnembkaaaFsPAx0
import Derived.Test.YtmijlibnembkaaaFsPAx3
import Derived.Test.YtmijlibnembkaaaFsPAx17
namespace Go.Proofs.Ytmijlibnembkaaa.PA
open Go.RowKit Go.Proofs.YtmijlibnembkaaaW.PrintWords Go.Proofs.YtmijlibnembkaaaW.PrintLast Go.Proofs.YtmijlibnembkaaaW.PrintMore
attribute [local go_sem] max2_int min2_int max_two min_two max_three min_three max_four min_four   -- for this text's walks alone
set_option linter.unusedVariables false
set_option linter.unusedSimpArgs false

/-! ### fix_becomes: function 23 -/
def fix_becomes.j0 : Nat → List (S43) → Int → List (S80) → Bool → Bool → Bool → Int → Int → Int → Int → Int → Int → Option ((List (S43)) × Int)
 | 0, _, _, _, _, _, _, _, _, _, _, _, _ => none
 | k + 1, x0, x1, x3, x11, x422000, x422001, x422002, x424000, x424001, x424002, x424003, x424004 => if x422001 = true then ((fix_context.f x424003).bind fun bt424 => (if bt424.2 = true then ((insn_Size.f k x424000).bind fun t426 => (if t426 = 0 then (some (([] : List (S43)), 2)) else (if x422002 = 0 then (some ((([(⟨x424000, x424001, x424002, bt424.1, x424004⟩ : S43)] : List (S43))), 0)) else (some (([] : List (S43)), 2))))) else (some (([] : List (S43)), 2)))) else (if x422002 = 0 then ((insn_Wide.f x424000).bind fun t430 => (if t430 = true then (if 0 ≤ (wrap64 (x1 + 1)) then (if (wrap64 (x1 + 1)) < (x0.length : Int) then ((insn_Long.f x424000 x424001 x424002 x424003 x424004 ((rd_T43 x0 (wrap64 (x1 + 1))).f0) ((rd_T43 x0 (wrap64 (x1 + 1))).f1) ((rd_T43 x0 (wrap64 (x1 + 1))).f2) ((rd_T43 x0 (wrap64 (x1 + 1))).f3) ((rd_T43 x0 (wrap64 (x1 + 1))).f4)).bind fun t432 => (if x424002 = 1 then ((insn_Split.f x424001 0 (IntKind.u64.wrap (t432 + 281474976710656))).bind fun t433 => (some (t433, 0))) else ((insn_Split.f x424001 0 t432).bind fun t436 => (some (t436, 0))))) else (none)) else (none)) else (some ((([(⟨x424000, x424001, x424002, x424003, x424004⟩ : S43)] : List (S43))), 0)))) else (if x11 = true then (if x422002 < 0 then (some (([] : List (S43)), 2)) else (if x422002 > (x3.length : Int) then (some (([] : List (S43)), 2)) else (if 0 ≤ (wrap64 (x422002 - 1)) then (if (wrap64 (x422002 - 1)) < (x3.length : Int) then (if ((rd_T80 x3 (wrap64 (x422002 - 1))).f0) = 0 then ((fix_lookup.f (wrap64 (x422002 - 1)) ((rd_T80 x3 (wrap64 (x422002 - 1))).f0) ((rd_T80 x3 (wrap64 (x422002 - 1))).f1) ((rd_T80 x3 (wrap64 (x422002 - 1))).f2) ((rd_T80 x3 (wrap64 (x422002 - 1))).f3)).bind fun t444 => (some (t444, 0))) else (some (([] : List (S43)), 2))) else (none)) else (none)))) else (some (([] : List (S43)), 2))))
def fix_becomes.f (k : Nat) (l0 : List (S43)) (a1 : Int) (a2_0 : Bool) (a2_1 : Bool) (a2_2 : Int) (l3 : List (S80)) : Option ((List (S43)) × Int) := if 0 ≤ a1 then (if a1 < (l0.length : Int) then (if ((rd_T43 l0 a1).f0) = 133 then (if ((rd_T43 l0 a1).f2) = 0 then (fix_becomes.j0 k l0 a1 l3 (((rd_T43 l0 a1).f4) == 1) a2_0 a2_1 a2_2 ((rd_T43 l0 a1).f0) ((rd_T43 l0 a1).f1) ((rd_T43 l0 a1).f2) ((rd_T43 l0 a1).f3) ((rd_T43 l0 a1).f4)) else (fix_becomes.j0 k l0 a1 l3 false a2_0 a2_1 a2_2 ((rd_T43 l0 a1).f0) ((rd_T43 l0 a1).f1) ((rd_T43 l0 a1).f2) ((rd_T43 l0 a1).f3) ((rd_T43 l0 a1).f4))) else (fix_becomes.j0 k l0 a1 l3 false a2_0 a2_1 a2_2 ((rd_T43 l0 a1).f0) ((rd_T43 l0 a1).f1) ((rd_T43 l0 a1).f2) ((rd_T43 l0 a1).f3) ((rd_T43 l0 a1).f4))) else (none)) else (none)
theorem fix_becomes.mono_l : ∀ k, (∀ y0 y1 y2 y3 y4 y5 y6 y7 y8 y9 y10 y11, LeO (fix_becomes.j0 k y0 y1 y2 y3 y4 y5 y6 y7 y8 y9 y10 y11) (fix_becomes.j0 (k + 1) y0 y1 y2 y3 y4 y5 y6 y7 y8 y9 y10 y11))
 | 0 => fun _ _ _ _ _ _ _ _ _ _ _ _ r h => by simp [fix_becomes.j0] at h
 | k + 1 => by
  have ih0 := fix_becomes.mono_l k
  ·
   intro y0 y1 y2 y3 y4 y5 y6 y7 y8 y9 y10 y11
   unfold fix_becomes.j0
   repeat' first
   | (with_reducible exact ih0 _ _ _ _ _ _ _ _ _ _ _ _)
   | (with_reducible exact insn_Size.mono _ _)
   | (with_reducible exact LeO.refl _)
   | (with_reducible exact LeO.none _)
   | (with_reducible refine LeO.ite ?_ ?_)
   | (with_reducible refine LeO.bind ?_ (fun _ => ?_))
theorem fix_becomes.mono : ∀ a0 a1 a2 a3 a4 a5 k, LeO (fix_becomes.f k a0 a1 a2 a3 a4 a5) (fix_becomes.f (k + 1) a0 a1 a2 a3 a4 a5) := by
 intro a0 a1 a2 a3 a4 a5 k
 have ih0 := fix_becomes.mono_l k
 unfold fix_becomes.f
 repeat' first
   | (with_reducible exact ih0 _ _ _ _ _ _ _ _ _ _ _ _)
   | (with_reducible exact insn_Size.mono _ _)
   | (with_reducible exact LeO.refl _)
   | (with_reducible exact LeO.none _)
   | (with_reducible refine LeO.ite ?_ ?_)
   | (with_reducible refine LeO.bind ?_ (fun _ => ?_))
def fix_becomes.T11 : Bool × List (List Nat × List Nat) := (true, [([], []), ([0], [0]), ([1], [1]), ([], []), ([], []), ([4], [4]), ([5], [5]), ([3, 6], [3, 6]), ([7], [7]), ([2, 8], [2, 8]), ([9, 9, 0, 1, 2, 3, 4, 5, 6, 7, 8, 9], [9]), ([10, 0, 1, 2, 3, 4, 5, 6, 7, 8, 9, 10], [])])
def fix_becomes.B11 : List Nat := [0, 1, 3, 0, 0, 16, 48, 120, 248, 511, 1023, 2047]
theorem fix_becomes.tab11 : rtab .any (opsOf Try.f23 11) = fix_becomes.T11 := by kernel_rfl
theorem fix_becomes.bits11 : waitsOk fix_becomes.T11.2 fix_becomes.B11 = true := by kernel_rfl
def fix_becomes.T13 : Bool × List (List Nat × List Nat) := (true, [([], []), ([], []), ([], []), ([2], [2]), ([1, 3], [1, 3]), ([4], [4]), ([0, 5], [0, 5]), ([6, 6, 0, 1, 2, 3, 4, 5, 6], [6])])
def fix_becomes.B13 : List Nat := [0, 0, 0, 4, 14, 30, 63, 127]
theorem fix_becomes.tab13 : rtab .any (opsOf Try.f23 13) = fix_becomes.T13 := by kernel_rfl
theorem fix_becomes.bits13 : waitsOk fix_becomes.T13.2 fix_becomes.B13 = true := by kernel_rfl
set_option maxHeartbeats 8000000 in
set_option maxRecDepth 100000 in
theorem fix_becomes.calls (k : Nat) (A0 : Option Addr) (c0 : Nat) (l0 : List (S43)) (a1 : Int) (a2_0 : Bool) (a2_1 : Bool) (a2_2 : Int) (A3 : Option Addr) (c3 : Nat) (l3 : List (S80)) (r1 : List (S43)) (r2 : Int) (w : World) (hr0 : Kd.C k43 w A0 l0.length l0) (hc0 : l0.length ≤ c0) (hr3 : Kd.C k80 w A3 l3.length l3) (hc3 : l3.length ≤ c3) (h : fix_becomes.f k l0 a1 a2_0 a2_1 a2_2 l3 = some (r1, r2)) :
  Calls Try.prog 23 #[.slice A0 l0.length c0, .int .i64 a1, .agg #[.bool a2_0, .bool a2_1, .int .i64 a2_2], .slice A3 l3.length c3] w fun e w' => ∃ v0_ : Value, e = .returned (.tuple #[v0_, .int .i64 r2]) ∧ Kd.R k43 43 w' w.heap.size (fun _ => True) v0_ r1 ∧ Below w.heap.size w w' := by
 have hu34 := Try.underlying34
 have hu43 := Try.underlying43
 have hu80 := Try.underlying80
 have HR0 := Aside0.mk hr0
 have HC0 := Aside0.mk hc0
 clear hr0 hc0
 have HR3 := Aside0.mk hr3
 have HC3 := Aside0.mk hc3
 clear hr3 hc3
 have HB := Aside0.mk (Below.refl w.heap.size w)
 have H : (if 0 ≤ a1 then (if a1 < (l0.length : Int) then (if ((rd_T43 l0 a1).f0) = 133 then (if ((rd_T43 l0 a1).f2) = 0 then (fix_becomes.j0 k l0 a1 l3 (((rd_T43 l0 a1).f4) == 1) a2_0 a2_1 a2_2 ((rd_T43 l0 a1).f0) ((rd_T43 l0 a1).f1) ((rd_T43 l0 a1).f2) ((rd_T43 l0 a1).f3) ((rd_T43 l0 a1).f4)) else (fix_becomes.j0 k l0 a1 l3 false a2_0 a2_1 a2_2 ((rd_T43 l0 a1).f0) ((rd_T43 l0 a1).f1) ((rd_T43 l0 a1).f2) ((rd_T43 l0 a1).f3) ((rd_T43 l0 a1).f4))) else (fix_becomes.j0 k l0 a1 l3 false a2_0 a2_1 a2_2 ((rd_T43 l0 a1).f0) ((rd_T43 l0 a1).f1) ((rd_T43 l0 a1).f2) ((rd_T43 l0 a1).f3) ((rd_T43 l0 a1).f4))) else (none)) else (none)) = some (r1, r2) := h
 clear h
 by_cases c5 : 0 ≤ a1
 ·
  rw [if_pos c5] at H
  have c5b0 : decide (0 ≤ a1) = true := decide_eq_true c5
  clear c5
  by_cases c6 : a1 < (l0.length : Int)
  ·
   rw [if_pos c6] at H
   have c6b0 : decide (a1 < (l0.length : Int)) = true := decide_eq_true c6
   clear c6
   have HC7 := Aside0.mk H
   clear H
   go_enter Try.func23, Try.ntmps23
   go_upto_region 2 with (first | ((with_reducible refine gate_dst (N := 6) rfl ?_); (try (refine gate_guard (by rfl) ?_; dsimp only)); refine box_event ?hg (N := 6) ?hd (cs := #[.bool a2_0, .bool a2_1, .int .i64 a2_2]) (t := 34) ?hr ?_; (case hd => rfl); (case hg => rfl); (case hr => first | (go_simp; done) | (go_simp; rfl)); intro gb421 hg w8 hbox hb; have n0_ := Aside0.mk (below_step (by repeat (first | (with_reducible first | exact HB.out | apply below_alloc | apply pw_below_drewN | apply below_drew1) | exact HB.out)) hb); have n1_ := Aside0.mk (hbox); have n2_ := Aside0.mk ((by rw [hg]; exact (below_size (by repeat (first | (with_reducible first | exact HB.out | apply below_alloc | apply pw_below_drewN | apply below_drew1) | exact HB.out))) : w.heap.size ≤ gb421)); have n3_ := Aside0.mk ((by rw [hg]; exact (below_size (by repeat (first | (with_reducible first | exact HB.out | apply below_alloc | apply pw_below_drewN | apply below_drew1) | exact HB.out))) : w.heap.size ≤ gb421)); clear HB; have HB := n0_; have BK421 := n1_; have GW421 := n2_; have GE421 := n3_; clear n0_ n1_ n2_ n3_; clear hb hbox hg; have p422 : 0 ≤ (a1 : Int) := of_decide_eq_true (by first | (with_reducible assumption) | assumption); have q422 : a1 < (l0.length : Int) := of_decide_eq_true (by first | (with_reducible assumption) | assumption); obtain ⟨ad422, e422, hx422_0, hx422_1, hx422_2, hx422_3, hx422_4⟩ := at_T43 HR0.out a1 p422 q422; cases e422; replace hx422_0 := (HB.out.cell (World.block_lt_of_cell? w _ hx422_0)).trans hx422_0; replace hx422_1 := (HB.out.cell (World.block_lt_of_cell? w _ hx422_1)).trans hx422_1; replace hx422_2 := (HB.out.cell (World.block_lt_of_cell? w _ hx422_2)).trans hx422_2; replace hx422_3 := (HB.out.cell (World.block_lt_of_cell? w _ hx422_3)).trans hx422_3; replace hx422_4 := (HB.out.cell (World.block_lt_of_cell? w _ hx422_4)).trans hx422_4; replace p422 := eq_true p422; replace q422 := eq_true q422) | ((with_reducible refine gate_dst (N := 10) rfl ?_); (try (refine gate_guard (by rfl) ?_; dsimp only)); refine box_event ?hg (N := 10) ?hd (cs := #[.int .u8 0, .int .u8 0, .int .u8 0, .int .i16 0, .int .i32 0]) (t := 43) ?hr ?_; (case hd => rfl); (case hg => rfl); (case hr => first | (go_simp; done) | (go_simp; rfl)); intro gb423 hg w9 hbox hb; have n0_ := Aside0.mk (blk_below (g := gb421) (o := .cells #[.bool a2_0, .bool a2_1, .int .i64 a2_2] 34 (0, 0)) (by (with_reducible repeat (first | refine blk_drewN ?_ _ | refine blk_drew ?_ | refine blk_alloc ?_ _)); exact BK421.out) hb); have n1_ := Aside0.mk (below_step (by repeat (first | (with_reducible first | exact HB.out | apply below_alloc | apply pw_below_drewN | apply below_drew1 | refine below_set ?_ GE421.out) | exact HB.out)) hb); have n2_ := Aside0.mk (hbox); have n3_ := Aside0.mk ((by rw [hg]; exact (below_size (by repeat (first | (with_reducible first | exact HB.out | apply below_alloc | apply pw_below_drewN | apply below_drew1 | refine below_set ?_ GE421.out) | exact HB.out))) : w.heap.size ≤ gb423)); have n4_ := Aside0.mk ((by rw [hg]; exact (below_size (by repeat (first | (with_reducible first | exact HB.out | apply below_alloc | apply pw_below_drewN | apply below_drew1 | refine below_set ?_ GE421.out) | exact HB.out))) : w.heap.size ≤ gb423)); have n5_ := Aside0.mk ((by rw [hg]; exact Nat.ne_of_lt (blk_lt (g := gb421) (o := .cells #[.bool a2_0, .bool a2_1, .int .i64 a2_2] 34 (0, 0)) (by (with_reducible repeat (first | refine blk_drewN ?_ _ | refine blk_drew ?_ | refine blk_alloc ?_ _)); exact BK421.out)) : gb421 ≠ gb423)); have n6_ := Aside0.mk ((by rw [hg]; exact Nat.ne_of_gt (blk_lt (g := gb421) (o := .cells #[.bool a2_0, .bool a2_1, .int .i64 a2_2] 34 (0, 0)) (by (with_reducible repeat (first | refine blk_drewN ?_ _ | refine blk_drew ?_ | refine blk_alloc ?_ _)); exact BK421.out)) : gb423 ≠ gb421)); clear BK421; clear HB; have BK421 := n0_; have HB := n1_; have BK423 := n2_; have GW423 := n3_; have GE423 := n4_; have NB421_423 := n5_; have NB423_421 := n6_; clear n0_ n1_ n2_ n3_ n4_ n5_ n6_; clear hb hbox hg; have hnb10 := NB423_421.out; have hnc10 := NB421_423.out; have hcz11_0 : w9.cell? ⟨gb423, 0, none⟩ = some (.int .u8 0) := (blk_cell BK423.out 0).trans rfl; have hcz11_1 : w9.cell? ⟨gb423, 1, none⟩ = some (.int .u8 0) := (blk_cell BK423.out 1).trans rfl; have hcz11_2 : w9.cell? ⟨gb423, 2, none⟩ = some (.int .u8 0) := (blk_cell BK423.out 2).trans rfl; have hcz11_3 : w9.cell? ⟨gb423, 3, none⟩ = some (.int .i16 0) := (blk_cell BK423.out 3).trans rfl; have hcz11_4 : w9.cell? ⟨gb423, 4, none⟩ = some (.int .i32 0) := (blk_cell BK423.out 4).trans rfl; have hfz11_0 := blk_frozen BK423.out 0; have hfz11_1 := blk_frozen BK423.out 1; have hfz11_2 := blk_frozen BK423.out 2; have hfz11_3 := blk_frozen BK423.out 3; have hfz11_4 := blk_frozen BK423.out 4))
   (try simp only [Act.put, List.setIfInBounds_toArray, List.set_cons_zero, List.set_cons_succ])
   go_cut [11] (fun v11 wc => ∃ (kq : Nat) (x11_6 : Bool), v11 = .bool x11_6 ∧ Aside0 (fix_becomes.j0 kq l0 a1 l3 x11_6 a2_0 a2_1 a2_2 ((rd_T43 l0 a1).f0) ((rd_T43 l0 a1).f1) ((rd_T43 l0 a1).f2) ((rd_T43 l0 a1).f3) ((rd_T43 l0 a1).f4) = some (r1, r2)) ∧ Aside0 (kq ≤ k) ∧ Aside0 (wc.heap[gb421]? = some (.cells #[.bool a2_0, .bool a2_1, .int .i64 a2_2] 34 (0, 0))) ∧ Aside0 (wc.heap[gb423]? = some (.cells #[.int .u8 ((rd_T43 l0 a1).f0), .int .u8 ((rd_T43 l0 a1).f1), .int .u8 ((rd_T43 l0 a1).f2), .int .i16 ((rd_T43 l0 a1).f3), .int .i32 ((rd_T43 l0 a1).f4)] 43 (0, 0))) ∧ Aside0 (Below w.heap.size w wc))
   case first =>
    have H := HC7.out
    clear HC7
    by_cases c12 : ((rd_T43 l0 a1).f0) = 133
    ·
     rw [if_pos c12] at H
     have c12b0 : (((rd_T43 l0 a1).f0) == 133) = true := beq_iff_eq.mpr c12
     have c12b1 : (((rd_T43 l0 a1).f0) != 133) = false := bne_eq_false_iff_eq.mpr c12
     clear c12
     (first | rw [c12b0] | (simp only [i64_w, i32_w]; rw [c12b0]) | skip)
     by_cases c13 : ((rd_T43 l0 a1).f2) = 0
     ·
      rw [if_pos c13] at H
      have c13b0 : (((rd_T43 l0 a1).f2) == 0) = true := beq_iff_eq.mpr c13
      have c13b1 : (((rd_T43 l0 a1).f2) != 0) = false := bne_eq_false_iff_eq.mpr c13
      clear c13
      have H' := Aside0.mk H
      clear H
      have hnb14 := NB423_421.out
      have hnc14 := NB421_423.out
      have hcz15_0 : w9.cell? ⟨gb423, 0, none⟩ = some (.int .u8 0) := (blk_cell BK423.out 0).trans rfl
      have hcz15_1 : w9.cell? ⟨gb423, 1, none⟩ = some (.int .u8 0) := (blk_cell BK423.out 1).trans rfl
      have hcz15_2 : w9.cell? ⟨gb423, 2, none⟩ = some (.int .u8 0) := (blk_cell BK423.out 2).trans rfl
      have hcz15_3 : w9.cell? ⟨gb423, 3, none⟩ = some (.int .i16 0) := (blk_cell BK423.out 3).trans rfl
      have hcz15_4 : w9.cell? ⟨gb423, 4, none⟩ = some (.int .i32 0) := (blk_cell BK423.out 4).trans rfl
      have hfz15_0 := blk_frozen BK423.out 0
      have hfz15_1 := blk_frozen BK423.out 1
      have hfz15_2 := blk_frozen BK423.out 2
      have hfz15_3 := blk_frozen BK423.out 3
      have hfz15_4 := blk_frozen BK423.out 4
      go_wp2
      go_meet
      case rel => exact ⟨_, ((((rd_T43 l0 a1).f4) == 1)), (by first | rfl | (simp; done) | (simp [*]; done)), H', ⟨by first | omega | exact Nat.le_refl _⟩, ⟨by (with_reducible repeat (first | refine blk_drewN ?_ _ | refine blk_drew ?_ | refine blk_alloc ?_ _)); refine blk_far ?_ NB421_423.out _; (with_reducible repeat (first | refine blk_drewN ?_ _ | refine blk_drew ?_ | refine blk_alloc ?_ _)); refine blk_far ?_ NB421_423.out _; (with_reducible repeat (first | refine blk_drewN ?_ _ | refine blk_drew ?_ | refine blk_alloc ?_ _)); refine blk_far ?_ NB421_423.out _; (with_reducible repeat (first | refine blk_drewN ?_ _ | refine blk_drew ?_ | refine blk_alloc ?_ _)); refine blk_far ?_ NB421_423.out _; (with_reducible repeat (first | refine blk_drewN ?_ _ | refine blk_drew ?_ | refine blk_alloc ?_ _)); refine blk_far ?_ NB421_423.out _; (with_reducible repeat (first | refine blk_drewN ?_ _ | refine blk_drew ?_ | refine blk_alloc ?_ _)); exact BK421.out⟩, ⟨by (with_reducible repeat (first | refine blk_drewN ?_ _ | refine blk_drew ?_ | refine blk_alloc ?_ _)); refine blk_put (cs := #[.int .u8 ((rd_T43 l0 a1).f0), .int .u8 ((rd_T43 l0 a1).f1), .int .u8 ((rd_T43 l0 a1).f2), .int .i16 ((rd_T43 l0 a1).f3), .int .i32 0]) ?_ 4 _ rfl; (with_reducible repeat (first | refine blk_drewN ?_ _ | refine blk_drew ?_ | refine blk_alloc ?_ _)); refine blk_put (cs := #[.int .u8 ((rd_T43 l0 a1).f0), .int .u8 ((rd_T43 l0 a1).f1), .int .u8 ((rd_T43 l0 a1).f2), .int .i16 0, .int .i32 0]) ?_ 3 _ rfl; (with_reducible repeat (first | refine blk_drewN ?_ _ | refine blk_drew ?_ | refine blk_alloc ?_ _)); refine blk_put (cs := #[.int .u8 ((rd_T43 l0 a1).f0), .int .u8 ((rd_T43 l0 a1).f1), .int .u8 0, .int .i16 0, .int .i32 0]) ?_ 2 _ rfl; (with_reducible repeat (first | refine blk_drewN ?_ _ | refine blk_drew ?_ | refine blk_alloc ?_ _)); refine blk_put (cs := #[.int .u8 ((rd_T43 l0 a1).f0), .int .u8 0, .int .u8 0, .int .i16 0, .int .i32 0]) ?_ 1 _ rfl; (with_reducible repeat (first | refine blk_drewN ?_ _ | refine blk_drew ?_ | refine blk_alloc ?_ _)); refine blk_put (cs := #[.int .u8 0, .int .u8 0, .int .u8 0, .int .i16 0, .int .i32 0]) ?_ 0 _ rfl; (with_reducible repeat (first | refine blk_drewN ?_ _ | refine blk_drew ?_ | refine blk_alloc ?_ _)); exact BK423.out⟩, ⟨by repeat (first | (with_reducible first | exact HB.out | apply below_alloc | apply pw_below_drewN | apply below_drew1 | refine below_set ?_ GE421.out | refine below_set ?_ GE423.out) | exact HB.out)⟩⟩
     ·
      rw [if_neg c13] at H
      have c13b0 : (((rd_T43 l0 a1).f2) == 0) = false := beq_eq_false_iff_ne.mpr c13
      have c13b1 : (((rd_T43 l0 a1).f2) != 0) = true := bne_iff_ne.mpr c13
      have H' := Aside0.mk H
      clear H
      have hnb16 := NB423_421.out
      have hnc16 := NB421_423.out
      have hcz17_0 : w9.cell? ⟨gb423, 0, none⟩ = some (.int .u8 0) := (blk_cell BK423.out 0).trans rfl
      have hcz17_1 : w9.cell? ⟨gb423, 1, none⟩ = some (.int .u8 0) := (blk_cell BK423.out 1).trans rfl
      have hcz17_2 : w9.cell? ⟨gb423, 2, none⟩ = some (.int .u8 0) := (blk_cell BK423.out 2).trans rfl
      have hcz17_3 : w9.cell? ⟨gb423, 3, none⟩ = some (.int .i16 0) := (blk_cell BK423.out 3).trans rfl
      have hcz17_4 : w9.cell? ⟨gb423, 4, none⟩ = some (.int .i32 0) := (blk_cell BK423.out 4).trans rfl
      have hfz17_0 := blk_frozen BK423.out 0
      have hfz17_1 := blk_frozen BK423.out 1
      have hfz17_2 := blk_frozen BK423.out 2
      have hfz17_3 := blk_frozen BK423.out 3
      have hfz17_4 := blk_frozen BK423.out 4
      go_wp2
      go_meet
      case rel => exact ⟨_, (false), (by first | rfl | (simp; done) | (simp [*]; done)), H', ⟨by first | omega | exact Nat.le_refl _⟩, ⟨by (with_reducible repeat (first | refine blk_drewN ?_ _ | refine blk_drew ?_ | refine blk_alloc ?_ _)); refine blk_far ?_ NB421_423.out _; (with_reducible repeat (first | refine blk_drewN ?_ _ | refine blk_drew ?_ | refine blk_alloc ?_ _)); refine blk_far ?_ NB421_423.out _; (with_reducible repeat (first | refine blk_drewN ?_ _ | refine blk_drew ?_ | refine blk_alloc ?_ _)); refine blk_far ?_ NB421_423.out _; (with_reducible repeat (first | refine blk_drewN ?_ _ | refine blk_drew ?_ | refine blk_alloc ?_ _)); refine blk_far ?_ NB421_423.out _; (with_reducible repeat (first | refine blk_drewN ?_ _ | refine blk_drew ?_ | refine blk_alloc ?_ _)); refine blk_far ?_ NB421_423.out _; (with_reducible repeat (first | refine blk_drewN ?_ _ | refine blk_drew ?_ | refine blk_alloc ?_ _)); exact BK421.out⟩, ⟨by (with_reducible repeat (first | refine blk_drewN ?_ _ | refine blk_drew ?_ | refine blk_alloc ?_ _)); refine blk_put (cs := #[.int .u8 ((rd_T43 l0 a1).f0), .int .u8 ((rd_T43 l0 a1).f1), .int .u8 ((rd_T43 l0 a1).f2), .int .i16 ((rd_T43 l0 a1).f3), .int .i32 0]) ?_ 4 _ rfl; (with_reducible repeat (first | refine blk_drewN ?_ _ | refine blk_drew ?_ | refine blk_alloc ?_ _)); refine blk_put (cs := #[.int .u8 ((rd_T43 l0 a1).f0), .int .u8 ((rd_T43 l0 a1).f1), .int .u8 ((rd_T43 l0 a1).f2), .int .i16 0, .int .i32 0]) ?_ 3 _ rfl; (with_reducible repeat (first | refine blk_drewN ?_ _ | refine blk_drew ?_ | refine blk_alloc ?_ _)); refine blk_put (cs := #[.int .u8 ((rd_T43 l0 a1).f0), .int .u8 ((rd_T43 l0 a1).f1), .int .u8 0, .int .i16 0, .int .i32 0]) ?_ 2 _ rfl; (with_reducible repeat (first | refine blk_drewN ?_ _ | refine blk_drew ?_ | refine blk_alloc ?_ _)); refine blk_put (cs := #[.int .u8 ((rd_T43 l0 a1).f0), .int .u8 0, .int .u8 0, .int .i16 0, .int .i32 0]) ?_ 1 _ rfl; (with_reducible repeat (first | refine blk_drewN ?_ _ | refine blk_drew ?_ | refine blk_alloc ?_ _)); refine blk_put (cs := #[.int .u8 0, .int .u8 0, .int .u8 0, .int .i16 0, .int .i32 0]) ?_ 0 _ rfl; (with_reducible repeat (first | refine blk_drewN ?_ _ | refine blk_drew ?_ | refine blk_alloc ?_ _)); exact BK423.out⟩, ⟨by repeat (first | (with_reducible first | exact HB.out | apply below_alloc | apply pw_below_drewN | apply below_drew1 | refine below_set ?_ GE421.out | refine below_set ?_ GE423.out) | exact HB.out)⟩⟩
    ·
     rw [if_neg c12] at H
     have c12b0 : (((rd_T43 l0 a1).f0) == 133) = false := beq_eq_false_iff_ne.mpr c12
     have c12b1 : (((rd_T43 l0 a1).f0) != 133) = true := bne_iff_ne.mpr c12
     (first | rw [c12b0] | (simp only [i64_w, i32_w]; rw [c12b0]) | skip)
     have H' := Aside0.mk H
     clear H
     have hnb18 := NB423_421.out
     have hnc18 := NB421_423.out
     have hcz19_0 : w9.cell? ⟨gb423, 0, none⟩ = some (.int .u8 0) := (blk_cell BK423.out 0).trans rfl
     have hcz19_1 : w9.cell? ⟨gb423, 1, none⟩ = some (.int .u8 0) := (blk_cell BK423.out 1).trans rfl
     have hcz19_2 : w9.cell? ⟨gb423, 2, none⟩ = some (.int .u8 0) := (blk_cell BK423.out 2).trans rfl
     have hcz19_3 : w9.cell? ⟨gb423, 3, none⟩ = some (.int .i16 0) := (blk_cell BK423.out 3).trans rfl
     have hcz19_4 : w9.cell? ⟨gb423, 4, none⟩ = some (.int .i32 0) := (blk_cell BK423.out 4).trans rfl
     have hfz19_0 := blk_frozen BK423.out 0
     have hfz19_1 := blk_frozen BK423.out 1
     have hfz19_2 := blk_frozen BK423.out 2
     have hfz19_3 := blk_frozen BK423.out 3
     have hfz19_4 := blk_frozen BK423.out 4
     go_wp2
     go_meet
     case rel => exact ⟨_, (false), (by first | rfl | (simp; done) | (simp [*]; done)), H', ⟨by first | omega | exact Nat.le_refl _⟩, ⟨by (with_reducible repeat (first | refine blk_drewN ?_ _ | refine blk_drew ?_ | refine blk_alloc ?_ _)); refine blk_far ?_ NB421_423.out _; (with_reducible repeat (first | refine blk_drewN ?_ _ | refine blk_drew ?_ | refine blk_alloc ?_ _)); refine blk_far ?_ NB421_423.out _; (with_reducible repeat (first | refine blk_drewN ?_ _ | refine blk_drew ?_ | refine blk_alloc ?_ _)); refine blk_far ?_ NB421_423.out _; (with_reducible repeat (first | refine blk_drewN ?_ _ | refine blk_drew ?_ | refine blk_alloc ?_ _)); refine blk_far ?_ NB421_423.out _; (with_reducible repeat (first | refine blk_drewN ?_ _ | refine blk_drew ?_ | refine blk_alloc ?_ _)); refine blk_far ?_ NB421_423.out _; (with_reducible repeat (first | refine blk_drewN ?_ _ | refine blk_drew ?_ | refine blk_alloc ?_ _)); exact BK421.out⟩, ⟨by (with_reducible repeat (first | refine blk_drewN ?_ _ | refine blk_drew ?_ | refine blk_alloc ?_ _)); refine blk_put (cs := #[.int .u8 ((rd_T43 l0 a1).f0), .int .u8 ((rd_T43 l0 a1).f1), .int .u8 ((rd_T43 l0 a1).f2), .int .i16 ((rd_T43 l0 a1).f3), .int .i32 0]) ?_ 4 _ rfl; (with_reducible repeat (first | refine blk_drewN ?_ _ | refine blk_drew ?_ | refine blk_alloc ?_ _)); refine blk_put (cs := #[.int .u8 ((rd_T43 l0 a1).f0), .int .u8 ((rd_T43 l0 a1).f1), .int .u8 ((rd_T43 l0 a1).f2), .int .i16 0, .int .i32 0]) ?_ 3 _ rfl; (with_reducible repeat (first | refine blk_drewN ?_ _ | refine blk_drew ?_ | refine blk_alloc ?_ _)); refine blk_put (cs := #[.int .u8 ((rd_T43 l0 a1).f0), .int .u8 ((rd_T43 l0 a1).f1), .int .u8 0, .int .i16 0, .int .i32 0]) ?_ 2 _ rfl; (with_reducible repeat (first | refine blk_drewN ?_ _ | refine blk_drew ?_ | refine blk_alloc ?_ _)); refine blk_put (cs := #[.int .u8 ((rd_T43 l0 a1).f0), .int .u8 0, .int .u8 0, .int .i16 0, .int .i32 0]) ?_ 1 _ rfl; (with_reducible repeat (first | refine blk_drewN ?_ _ | refine blk_drew ?_ | refine blk_alloc ?_ _)); refine blk_put (cs := #[.int .u8 0, .int .u8 0, .int .u8 0, .int .i16 0, .int .i32 0]) ?_ 0 _ rfl; (with_reducible repeat (first | refine blk_drewN ?_ _ | refine blk_drew ?_ | refine blk_alloc ?_ _)); exact BK423.out⟩, ⟨by repeat (first | (with_reducible first | exact HB.out | apply below_alloc | apply pw_below_drewN | apply below_drew1 | refine below_set ?_ GE421.out | refine below_set ?_ GE423.out) | exact HB.out)⟩⟩
   case rest =>
    clear HC7
    try clear c1; try clear c2; try clear p2; try clear c3; try clear p4; try clear q4; try clear hx4; try clear c5; try clear c5b0; try clear c6; try clear c6b0; try clear c10; try clear c12; try clear c12b0; try clear c12b1; try clear c13; try clear c13b0; try clear c13b1; try clear c14; try clear c16; try clear c18; try clear hcz11_0; try clear hcz11_1; try clear hcz11_2; try clear hcz11_3; try clear hcz11_4; try clear hcz15_0; try clear hcz15_1; try clear hcz15_2; try clear hcz15_3; try clear hcz15_4; try clear hcz17_0; try clear hcz17_1; try clear hcz17_2; try clear hcz17_3; try clear hcz17_4; try clear hcz19_0; try clear hcz19_1; try clear hcz19_2; try clear hcz19_3; try clear hcz19_4; try clear hfz11_0; try clear hfz11_1; try clear hfz11_2; try clear hfz11_3; try clear hfz11_4; try clear hfz15_0; try clear hfz15_1; try clear hfz15_2; try clear hfz15_3; try clear hfz15_4; try clear hfz17_0; try clear hfz17_1; try clear hfz17_2; try clear hfz17_3; try clear hfz17_4; try clear hfz19_0; try clear hfz19_1; try clear hfz19_2; try clear hfz19_3; try clear hfz19_4; try clear hx422_0; try clear hx422_1; try clear hx422_2; try clear hx422_3; try clear hx422_4; try clear p422; try clear q422
    obtain ⟨kq, x11_6, rfl, HA, HJ6, BK421, BK423, HB⟩ := hcut
    cases kq with
    | zero => exact absurd HA.out (by simp [fix_becomes.j0])
    | succ kj6 =>
     have H := HA.out
     clear HA
     simp only [fix_becomes.j0] at H
     by_cases c20 : a2_1 = true
     ·
      subst c20
      have H1 : ((fix_context.f ((rd_T43 l0 a1).f3)).bind fun bt424 => (if bt424.2 = true then ((insn_Size.f kj6 ((rd_T43 l0 a1).f0)).bind fun t426 => (if t426 = 0 then (some (([] : List (S43)), 2)) else (if a2_2 = 0 then (some ((([(⟨((rd_T43 l0 a1).f0), ((rd_T43 l0 a1).f1), ((rd_T43 l0 a1).f2), bt424.1, ((rd_T43 l0 a1).f4)⟩ : S43)] : List (S43))), 0)) else (some (([] : List (S43)), 2))))) else (some (([] : List (S43)), 2)))) = some (r1, r2) := by rw [if_pos rfl] at H; exact H
      clear H
      have H := H1
      clear H1
      replace H := Option.bind_eq_some_iff.mp H
      obtain ⟨⟨t424, t425⟩, A210, H⟩ := H
      replace H : (if t425 = true then ((insn_Size.f kj6 ((rd_T43 l0 a1).f0)).bind fun t426 => (if t426 = 0 then (some (([] : List (S43)), 2)) else (if a2_2 = 0 then (some ((([(⟨((rd_T43 l0 a1).f0), ((rd_T43 l0 a1).f1), ((rd_T43 l0 a1).f2), t424, ((rd_T43 l0 a1).f4)⟩ : S43)] : List (S43))), 0)) else (some (([] : List (S43)), 2))))) else (some (([] : List (S43)), 2))) = some (r1, r2) := H
      have A21 := Aside0.mk A210
      clear A210
      by_cases c22 : t425 = true
      ·
       subst c22
       have H1 : ((insn_Size.f kj6 ((rd_T43 l0 a1).f0)).bind fun t426 => (if t426 = 0 then (some (([] : List (S43)), 2)) else (if a2_2 = 0 then (some ((([(⟨((rd_T43 l0 a1).f0), ((rd_T43 l0 a1).f1), ((rd_T43 l0 a1).f2), t424, ((rd_T43 l0 a1).f4)⟩ : S43)] : List (S43))), 0)) else (some (([] : List (S43)), 2))))) = some (r1, r2) := by rw [if_pos rfl] at H; exact H
       clear H
       have H := H1
       clear H1
       replace H := Option.bind_eq_some_iff.mp H
       obtain ⟨t426, A230, H⟩ := H
       replace H : (if t426 = 0 then (some (([] : List (S43)), 2)) else (if a2_2 = 0 then (some ((([(⟨((rd_T43 l0 a1).f0), ((rd_T43 l0 a1).f1), ((rd_T43 l0 a1).f2), t424, ((rd_T43 l0 a1).f4)⟩ : S43)] : List (S43))), 0)) else (some (([] : List (S43)), 2)))) = some (r1, r2) := H
       have A23 := Aside0.mk A230
       clear A230
       by_cases c24 : t426 = 0
       ·
        rw [if_pos c24] at H
        have c24b0 : (t426 == 0) = true := beq_iff_eq.mpr c24
        have c24b1 : (t426 != 0) = false := bne_eq_false_iff_eq.mpr c24
        clear c24
        simp only [Option.some.injEq, Prod.mk.injEq] at H
        obtain ⟨rfl, rfl⟩ := H
        have hnb25 := NB421_423.out
        have hnc25 := NB423_421.out
        have hcz26_0 : wc.cell? ⟨gb421, 0, none⟩ = some (.bool a2_0) := (blk_cell BK421.out 0).trans rfl
        have hcz26_1 : wc.cell? ⟨gb421, 1, none⟩ = some (.bool true) := (blk_cell BK421.out 1).trans rfl
        have hcz26_2 : wc.cell? ⟨gb421, 2, none⟩ = some (.int .i64 a2_2) := (blk_cell BK421.out 2).trans rfl
        have hfz26_0 := blk_frozen BK421.out 0
        have hfz26_1 := blk_frozen BK421.out 1
        have hfz26_2 := blk_frozen BK421.out 2
        have hcz27_0 : wc.cell? ⟨gb423, 0, none⟩ = some (.int .u8 ((rd_T43 l0 a1).f0)) := (blk_cell BK423.out 0).trans rfl
        have hcz27_1 : wc.cell? ⟨gb423, 1, none⟩ = some (.int .u8 ((rd_T43 l0 a1).f1)) := (blk_cell BK423.out 1).trans rfl
        have hcz27_2 : wc.cell? ⟨gb423, 2, none⟩ = some (.int .u8 ((rd_T43 l0 a1).f2)) := (blk_cell BK423.out 2).trans rfl
        have hcz27_3 : wc.cell? ⟨gb423, 3, none⟩ = some (.int .i16 ((rd_T43 l0 a1).f3)) := (blk_cell BK423.out 3).trans rfl
        have hcz27_4 : wc.cell? ⟨gb423, 4, none⟩ = some (.int .i32 ((rd_T43 l0 a1).f4)) := (blk_cell BK423.out 4).trans rfl
        have hfz27_0 := blk_frozen BK423.out 0
        have hfz27_1 := blk_frozen BK423.out 1
        have hfz27_2 := blk_frozen BK423.out 2
        have hfz27_3 := blk_frozen BK423.out 3
        have hfz27_4 := blk_frozen BK423.out 4
        go_wp2_with (first | ((with_reducible refine gate_callee (f := 38) rfl ?_); refine goesL_ (some 38) rfl rfl Try.func38 (by kernel_rfl) rfl #[.int .i16 ((rd_T43 l0 a1).f3)] rfl (by (try simp only [List.map_toArray, List.map_cons, List.map_nil]); first | done | rfl | (simp only [List.length_drop, List.length_take]; rfl)) ?_; (with_reducible refine (fix_context.calls ((rd_T43 l0 a1).f3) t424 true _ A21.out).mono ?_); rintro e w' ⟨rfl, ⟨nd, rfl⟩⟩; refine ⟨_, rfl, ?_⟩) | (go_at_call 39; (with_reducible refine (insn_Size.calls kj6 ((rd_T43 l0 a1).f0) t426 _ A23.out).mono ?_); rintro e w28 ⟨rfl, hb⟩; have n0_ := Aside0.mk (blk_below (g := gb421) (o := .cells #[.bool a2_0, .bool true, .int .i64 a2_2] 34 (0, 0)) (by (with_reducible repeat (first | refine blk_drewN ?_ _ | refine blk_drew ?_ | refine blk_alloc ?_ _)); exact BK421.out) hb); have n1_ := Aside0.mk (blk_below (g := gb423) (o := .cells #[.int .u8 ((rd_T43 l0 a1).f0), .int .u8 ((rd_T43 l0 a1).f1), .int .u8 ((rd_T43 l0 a1).f2), .int .i16 ((rd_T43 l0 a1).f3), .int .i32 ((rd_T43 l0 a1).f4)] 43 (0, 0)) (by (with_reducible repeat (first | refine blk_drewN ?_ _ | refine blk_drew ?_ | refine blk_alloc ?_ _)); exact BK423.out) hb); have n2_ := Aside0.mk (below_step (by repeat (first | (with_reducible first | exact HB.out | apply below_alloc | apply pw_below_drewN | apply below_drew1 | refine below_set ?_ GE421.out | refine below_set ?_ GE423.out) | exact HB.out)) hb); clear BK421; clear BK423; clear HB; have BK421 := n0_; have BK423 := n1_; have HB := n2_; clear n0_ n1_ n2_; (try clear hb); (try clear hb2); (try clear hk); (try clear hi)))
        go_ret2
        exact ⟨_, by first | rfl | (simp [errW_none, errW_some] <;> rfl) | (simp [*, errW_none, errW_some] <;> rfl), by first | exact Kd.R_nil _ _ _ _ _ | exact Kd.N_nil _ _ _ _ _ | exact Kd.V_nil _ _ _ _ _ | exact Kd.Q_nil _ _ _ _ _ | exact Kd.S_nil _ _ _ _ _, by repeat (first | (with_reducible first | exact HB.out | apply below_alloc | apply pw_below_drewN | apply below_drew1 | refine below_set ?_ GE421.out | refine below_set ?_ GE423.out) | exact HB.out)⟩
       ·
        rw [if_neg c24] at H
        have c24b0 : (t426 == 0) = false := beq_eq_false_iff_ne.mpr c24
        have c24b1 : (t426 != 0) = true := bne_iff_ne.mpr c24
        by_cases c29 : a2_2 = 0
        ·
         rw [if_pos c29] at H
         have c29b0 : (a2_2 == 0) = true := beq_iff_eq.mpr c29
         have c29b1 : (a2_2 != 0) = false := bne_eq_false_iff_eq.mpr c29
         clear c29
         obtain ⟨y427, hy427⟩ : ∃ y_ : List (S43), y_ = (([(⟨((rd_T43 l0 a1).f0), ((rd_T43 l0 a1).f1), ((rd_T43 l0 a1).f2), t424, ((rd_T43 l0 a1).f4)⟩ : S43)] : List (S43))) := ⟨_, rfl⟩
         replace H : (some (y427, 0)) = some (r1, r2) := by first | (rw [hy427]; with_reducible exact H) | (have H2_ := (Option.bind_some _ _).symm.trans H; rw [hy427]; with_reducible exact H2_) | (have H2_ := (Option.bind_some _ _).symm.trans H; with_reducible exact H2_) | with_reducible exact H | (rw [hy427]; exact H) | exact H
         have Ny427 := Aside0.mk hy427
         clear hy427
         simp only [Option.some.injEq, Prod.mk.injEq] at H
         obtain ⟨rfl, rfl⟩ := H
         have hnb30 := NB421_423.out
         have hnc30 := NB423_421.out
         have hcz31_0 : wc.cell? ⟨gb421, 0, none⟩ = some (.bool a2_0) := (blk_cell BK421.out 0).trans rfl
         have hcz31_1 : wc.cell? ⟨gb421, 1, none⟩ = some (.bool true) := (blk_cell BK421.out 1).trans rfl
         have hcz31_2 : wc.cell? ⟨gb421, 2, none⟩ = some (.int .i64 a2_2) := (blk_cell BK421.out 2).trans rfl
         have hfz31_0 := blk_frozen BK421.out 0
         have hfz31_1 := blk_frozen BK421.out 1
         have hfz31_2 := blk_frozen BK421.out 2
         have hcz32_0 : wc.cell? ⟨gb423, 0, none⟩ = some (.int .u8 ((rd_T43 l0 a1).f0)) := (blk_cell BK423.out 0).trans rfl
         have hcz32_1 : wc.cell? ⟨gb423, 1, none⟩ = some (.int .u8 ((rd_T43 l0 a1).f1)) := (blk_cell BK423.out 1).trans rfl
         have hcz32_2 : wc.cell? ⟨gb423, 2, none⟩ = some (.int .u8 ((rd_T43 l0 a1).f2)) := (blk_cell BK423.out 2).trans rfl
         have hcz32_3 : wc.cell? ⟨gb423, 3, none⟩ = some (.int .i16 ((rd_T43 l0 a1).f3)) := (blk_cell BK423.out 3).trans rfl
         have hcz32_4 : wc.cell? ⟨gb423, 4, none⟩ = some (.int .i32 ((rd_T43 l0 a1).f4)) := (blk_cell BK423.out 4).trans rfl
         have hfz32_0 := blk_frozen BK423.out 0
         have hfz32_1 := blk_frozen BK423.out 1
         have hfz32_2 := blk_frozen BK423.out 2
         have hfz32_3 := blk_frozen BK423.out 3
         have hfz32_4 := blk_frozen BK423.out 4
         go_wp2_with (first | ((with_reducible refine gate_callee (f := 38) rfl ?_); refine goesL_ (some 38) rfl rfl Try.func38 (by kernel_rfl) rfl #[.int .i16 ((rd_T43 l0 a1).f3)] rfl (by (try simp only [List.map_toArray, List.map_cons, List.map_nil]); first | done | rfl | (simp only [List.length_drop, List.length_take]; rfl)) ?_; (with_reducible refine (fix_context.calls ((rd_T43 l0 a1).f3) t424 true _ A21.out).mono ?_); rintro e w' ⟨rfl, ⟨nd, rfl⟩⟩; refine ⟨_, rfl, ?_⟩; (try (rw [drewN_self wc]; generalize hq_ : World.drewN wc _ = wc; have n0_ : Aside0 (wc.heap[gb421]? = some (.cells #[.bool a2_0, .bool true, .int .i64 a2_2] 34 (0, 0))) := ⟨by rw [← hq_]; exact (by (with_reducible repeat (first | refine blk_drewN ?_ _ | refine blk_drew ?_ | refine blk_alloc ?_ _)); exact BK421.out)⟩; have n1_ : Aside0 (wc.heap[gb423]? = some (.cells #[.int .u8 ((rd_T43 l0 a1).f0), .int .u8 ((rd_T43 l0 a1).f1), .int .u8 ((rd_T43 l0 a1).f2), .int .i16 ((rd_T43 l0 a1).f3), .int .i32 ((rd_T43 l0 a1).f4)] 43 (0, 0))) := ⟨by rw [← hq_]; exact (by (with_reducible repeat (first | refine blk_drewN ?_ _ | refine blk_drew ?_ | refine blk_alloc ?_ _)); exact BK423.out)⟩; have n2_ : Aside0 (Below w.heap.size w wc) := ⟨by rw [← hq_]; exact (by repeat (first | (with_reducible first | exact HB.out | apply below_alloc | apply pw_below_drewN | apply below_drew1 | refine below_set ?_ GE421.out | refine below_set ?_ GE423.out) | exact HB.out))⟩; clear BK421 BK423 HB hq_; have BK421 := n0_; have BK423 := n1_; have HB := n2_; clear n0_ n1_ n2_)); (try have hczu33_0 : wc.cell? ⟨gb421, 0, none⟩ = some (.bool a2_0) := (blk_cell BK421.out 0).trans rfl); (try have hczu33_1 : wc.cell? ⟨gb421, 1, none⟩ = some (.bool true) := (blk_cell BK421.out 1).trans rfl); (try have hczu33_2 : wc.cell? ⟨gb421, 2, none⟩ = some (.int .i64 a2_2) := (blk_cell BK421.out 2).trans rfl); have hfzu33_0 := blk_frozen BK421.out 0; have hfzu33_1 := blk_frozen BK421.out 1; have hfzu33_2 := blk_frozen BK421.out 2; (try have hczu34_0 : wc.cell? ⟨gb423, 0, none⟩ = some (.int .u8 ((rd_T43 l0 a1).f0)) := (blk_cell BK423.out 0).trans rfl); (try have hczu34_1 : wc.cell? ⟨gb423, 1, none⟩ = some (.int .u8 ((rd_T43 l0 a1).f1)) := (blk_cell BK423.out 1).trans rfl); (try have hczu34_2 : wc.cell? ⟨gb423, 2, none⟩ = some (.int .u8 ((rd_T43 l0 a1).f2)) := (blk_cell BK423.out 2).trans rfl); (try have hczu34_3 : wc.cell? ⟨gb423, 3, none⟩ = some (.int .i16 ((rd_T43 l0 a1).f3)) := (blk_cell BK423.out 3).trans rfl); (try have hczu34_4 : wc.cell? ⟨gb423, 4, none⟩ = some (.int .i32 ((rd_T43 l0 a1).f4)) := (blk_cell BK423.out 4).trans rfl); have hfzu34_0 := blk_frozen BK423.out 0; have hfzu34_1 := blk_frozen BK423.out 1; have hfzu34_2 := blk_frozen BK423.out 2; have hfzu34_3 := blk_frozen BK423.out 3; have hfzu34_4 := blk_frozen BK423.out 4) | (go_at_call 39; (with_reducible refine (insn_Size.calls kj6 ((rd_T43 l0 a1).f0) t426 _ A23.out).mono ?_); rintro e w35 ⟨rfl, hb⟩; have n0_ := Aside0.mk (blk_below (g := gb421) (o := .cells #[.bool a2_0, .bool true, .int .i64 a2_2] 34 (0, 0)) (by (with_reducible repeat (first | refine blk_drewN ?_ _ | refine blk_drew ?_ | refine blk_alloc ?_ _)); exact BK421.out) hb); have n1_ := Aside0.mk (blk_below (g := gb423) (o := .cells #[.int .u8 ((rd_T43 l0 a1).f0), .int .u8 ((rd_T43 l0 a1).f1), .int .u8 ((rd_T43 l0 a1).f2), .int .i16 ((rd_T43 l0 a1).f3), .int .i32 ((rd_T43 l0 a1).f4)] 43 (0, 0)) (by (with_reducible repeat (first | refine blk_drewN ?_ _ | refine blk_drew ?_ | refine blk_alloc ?_ _)); exact BK423.out) hb); have n2_ := Aside0.mk (below_step (by repeat (first | (with_reducible first | exact HB.out | apply below_alloc | apply pw_below_drewN | apply below_drew1 | refine below_set ?_ GE421.out | refine below_set ?_ GE423.out) | exact HB.out)) hb); clear BK421; clear BK423; clear HB; have BK421 := n0_; have BK423 := n1_; have HB := n2_; clear n0_ n1_ n2_; (try clear hb); (try clear hb2); (try clear hk); (try clear hi); have hcz36_0 : w35.cell? ⟨gb421, 0, none⟩ = some (.bool a2_0) := (blk_cell BK421.out 0).trans rfl; have hcz36_1 : w35.cell? ⟨gb421, 1, none⟩ = some (.bool true) := (blk_cell BK421.out 1).trans rfl; have hcz36_2 : w35.cell? ⟨gb421, 2, none⟩ = some (.int .i64 a2_2) := (blk_cell BK421.out 2).trans rfl; have hfz36_0 := blk_frozen BK421.out 0; have hfz36_1 := blk_frozen BK421.out 1; have hfz36_2 := blk_frozen BK421.out 2; have hcz37_0 : w35.cell? ⟨gb423, 0, none⟩ = some (.int .u8 ((rd_T43 l0 a1).f0)) := (blk_cell BK423.out 0).trans rfl; have hcz37_1 : w35.cell? ⟨gb423, 1, none⟩ = some (.int .u8 ((rd_T43 l0 a1).f1)) := (blk_cell BK423.out 1).trans rfl; have hcz37_2 : w35.cell? ⟨gb423, 2, none⟩ = some (.int .u8 ((rd_T43 l0 a1).f2)) := (blk_cell BK423.out 2).trans rfl; have hcz37_3 : w35.cell? ⟨gb423, 3, none⟩ = some (.int .i16 ((rd_T43 l0 a1).f3)) := (blk_cell BK423.out 3).trans rfl; have hcz37_4 : w35.cell? ⟨gb423, 4, none⟩ = some (.int .i32 ((rd_T43 l0 a1).f4)) := (blk_cell BK423.out 4).trans rfl; have hfz37_0 := blk_frozen BK423.out 0; have hfz37_1 := blk_frozen BK423.out 1; have hfz37_2 := blk_frozen BK423.out 2; have hfz37_3 := blk_frozen BK423.out 3; have hfz37_4 := blk_frozen BK423.out 4) | ((with_reducible refine gate_dst (N := 115) rfl ?_); (try (refine gate_guard (by rfl) ?_; dsimp only)); refine Kd.R_lit k43 _ 43 ?hg (N := 115) ?hd (xs := ([(⟨((rd_T43 l0 a1).f0), ((rd_T43 l0 a1).f1), ((rd_T43 l0 a1).f2), t424, ((rd_T43 l0 a1).f4)⟩ : S43)] : List (S43))) (inner := [.int .u8 ((rd_T43 l0 a1).f0), .int .u8 ((rd_T43 l0 a1).f1), .int .u8 ((rd_T43 l0 a1).f2), .int .i16 t424, .int .i32 ((rd_T43 l0 a1).f4)]) (ok := fun _ => True) (okp := fun _ => True) ?hr ?hp (fun _ hk => hk) trivial (Below.refl _ _) (Nat.le_refl _) (by simp) ?_; (case hd => rfl); (case hg => rfl); (case hr => first | (go_simp; done) | (go_simp; rfl)); (case hp => exact (Reps.c5 (show Kd.M k43 _ _ _ (⟨((rd_T43 l0 a1).f0), ((rd_T43 l0 a1).f1), ((rd_T43 l0 a1).f2), t424, ((rd_T43 l0 a1).f4)⟩ : S43) [.int .u8 ((rd_T43 l0 a1).f0), .int .u8 ((rd_T43 l0 a1).f1), .int .u8 ((rd_T43 l0 a1).f2), .int .i16 t424, .int .i32 ((rd_T43 l0 a1).f4)] from (k43_mkM _ _ _ (⟨((rd_T43 l0 a1).f0), ((rd_T43 l0 a1).f1), ((rd_T43 l0 a1).f2), t424, ((rd_T43 l0 a1).f4)⟩ : S43) )) (Reps.none _ _))); intro v428 w38 ho39 hb hg_ hnew_; clear hg_ hnew_; (first | rw [← Ny427.out] at ho39 | (simp only [Int.reduceToNat] at ho39; rw [← Ny427.out] at ho39)); have n0_ := Aside0.mk (Kd.R_lower (Kd.R_newB ho39 (g := gb423) (o := .cells #[.int .u8 ((rd_T43 l0 a1).f0), .int .u8 ((rd_T43 l0 a1).f1), .int .u8 ((rd_T43 l0 a1).f2), .int .i16 t424, .int .i32 ((rd_T43 l0 a1).f4)] 43 (0, 0)) (by (with_reducible repeat (first | refine blk_drewN ?_ _ | refine blk_drew ?_ | refine blk_alloc ?_ _)); refine blk_put (cs := #[.int .u8 ((rd_T43 l0 a1).f0), .int .u8 ((rd_T43 l0 a1).f1), .int .u8 ((rd_T43 l0 a1).f2), .int .i16 ((rd_T43 l0 a1).f3), .int .i32 ((rd_T43 l0 a1).f4)]) ?_ 3 _ rfl; (with_reducible repeat (first | refine blk_drewN ?_ _ | refine blk_drew ?_ | refine blk_alloc ?_ _)); exact BK423.out)) (below_size (by repeat (first | (with_reducible first | exact HB.out | apply below_alloc | apply pw_below_drewN | apply below_drew1 | refine below_set ?_ GE421.out | refine below_set ?_ GE423.out) | exact HB.out)))); have n1_ := Aside0.mk (blk_below (g := gb421) (o := .cells #[.bool a2_0, .bool true, .int .i64 a2_2] 34 (0, 0)) (by (with_reducible repeat (first | refine blk_drewN ?_ _ | refine blk_drew ?_ | refine blk_alloc ?_ _)); refine blk_far ?_ NB421_423.out _; (with_reducible repeat (first | refine blk_drewN ?_ _ | refine blk_drew ?_ | refine blk_alloc ?_ _)); exact BK421.out) hb); have n2_ := Aside0.mk (blk_below (g := gb423) (o := .cells #[.int .u8 ((rd_T43 l0 a1).f0), .int .u8 ((rd_T43 l0 a1).f1), .int .u8 ((rd_T43 l0 a1).f2), .int .i16 t424, .int .i32 ((rd_T43 l0 a1).f4)] 43 (0, 0)) (by (with_reducible repeat (first | refine blk_drewN ?_ _ | refine blk_drew ?_ | refine blk_alloc ?_ _)); refine blk_put (cs := #[.int .u8 ((rd_T43 l0 a1).f0), .int .u8 ((rd_T43 l0 a1).f1), .int .u8 ((rd_T43 l0 a1).f2), .int .i16 ((rd_T43 l0 a1).f3), .int .i32 ((rd_T43 l0 a1).f4)]) ?_ 3 _ rfl; (with_reducible repeat (first | refine blk_drewN ?_ _ | refine blk_drew ?_ | refine blk_alloc ?_ _)); exact BK423.out) hb); have n3_ := Aside0.mk (below_step (by repeat (first | (with_reducible first | exact HB.out | apply below_alloc | apply pw_below_drewN | apply below_drew1 | refine below_set ?_ GE421.out | refine below_set ?_ GE423.out) | exact HB.out)) hb); clear BK421; clear BK423; clear HB; have HO429 := n0_; have BK421 := n1_; have BK423 := n2_; have HB := n3_; clear n0_ n1_ n2_ n3_; clear hb ho39))
         go_ret2
         exact ⟨_, by first | rfl | (simp [errW_none, errW_some] <;> rfl) | (simp [*, errW_none, errW_some] <;> rfl), by (with_reducible repeat (first | apply Kd.R_alloc | apply Kd.R_drewN | apply Kd.R_drew)); exact Kd.R_mono HO429.out (fun _ hk => trivial), by repeat (first | (with_reducible first | exact HB.out | apply below_alloc | apply pw_below_drewN | apply below_drew1 | refine below_set ?_ GE421.out | refine below_set ?_ GE423.out) | exact HB.out)⟩
        ·
         rw [if_neg c29] at H
         have c29b0 : (a2_2 == 0) = false := beq_eq_false_iff_ne.mpr c29
         have c29b1 : (a2_2 != 0) = true := bne_iff_ne.mpr c29
         simp only [Option.some.injEq, Prod.mk.injEq] at H
         obtain ⟨rfl, rfl⟩ := H
         have hnb40 := NB421_423.out
         have hnc40 := NB423_421.out
         have hcz41_0 : wc.cell? ⟨gb421, 0, none⟩ = some (.bool a2_0) := (blk_cell BK421.out 0).trans rfl
         have hcz41_1 : wc.cell? ⟨gb421, 1, none⟩ = some (.bool true) := (blk_cell BK421.out 1).trans rfl
         have hcz41_2 : wc.cell? ⟨gb421, 2, none⟩ = some (.int .i64 a2_2) := (blk_cell BK421.out 2).trans rfl
         have hfz41_0 := blk_frozen BK421.out 0
         have hfz41_1 := blk_frozen BK421.out 1
         have hfz41_2 := blk_frozen BK421.out 2
         have hcz42_0 : wc.cell? ⟨gb423, 0, none⟩ = some (.int .u8 ((rd_T43 l0 a1).f0)) := (blk_cell BK423.out 0).trans rfl
         have hcz42_1 : wc.cell? ⟨gb423, 1, none⟩ = some (.int .u8 ((rd_T43 l0 a1).f1)) := (blk_cell BK423.out 1).trans rfl
         have hcz42_2 : wc.cell? ⟨gb423, 2, none⟩ = some (.int .u8 ((rd_T43 l0 a1).f2)) := (blk_cell BK423.out 2).trans rfl
         have hcz42_3 : wc.cell? ⟨gb423, 3, none⟩ = some (.int .i16 ((rd_T43 l0 a1).f3)) := (blk_cell BK423.out 3).trans rfl
         have hcz42_4 : wc.cell? ⟨gb423, 4, none⟩ = some (.int .i32 ((rd_T43 l0 a1).f4)) := (blk_cell BK423.out 4).trans rfl
         have hfz42_0 := blk_frozen BK423.out 0
         have hfz42_1 := blk_frozen BK423.out 1
         have hfz42_2 := blk_frozen BK423.out 2
         have hfz42_3 := blk_frozen BK423.out 3
         have hfz42_4 := blk_frozen BK423.out 4
         go_wp2_with (first | ((with_reducible refine gate_callee (f := 38) rfl ?_); refine goesL_ (some 38) rfl rfl Try.func38 (by kernel_rfl) rfl #[.int .i16 ((rd_T43 l0 a1).f3)] rfl (by (try simp only [List.map_toArray, List.map_cons, List.map_nil]); first | done | rfl | (simp only [List.length_drop, List.length_take]; rfl)) ?_; (with_reducible refine (fix_context.calls ((rd_T43 l0 a1).f3) t424 true _ A21.out).mono ?_); rintro e w' ⟨rfl, ⟨nd, rfl⟩⟩; refine ⟨_, rfl, ?_⟩) | (go_at_call 39; (with_reducible refine (insn_Size.calls kj6 ((rd_T43 l0 a1).f0) t426 _ A23.out).mono ?_); rintro e w43 ⟨rfl, hb⟩; have n0_ := Aside0.mk (blk_below (g := gb421) (o := .cells #[.bool a2_0, .bool true, .int .i64 a2_2] 34 (0, 0)) (by (with_reducible repeat (first | refine blk_drewN ?_ _ | refine blk_drew ?_ | refine blk_alloc ?_ _)); exact BK421.out) hb); have n1_ := Aside0.mk (blk_below (g := gb423) (o := .cells #[.int .u8 ((rd_T43 l0 a1).f0), .int .u8 ((rd_T43 l0 a1).f1), .int .u8 ((rd_T43 l0 a1).f2), .int .i16 ((rd_T43 l0 a1).f3), .int .i32 ((rd_T43 l0 a1).f4)] 43 (0, 0)) (by (with_reducible repeat (first | refine blk_drewN ?_ _ | refine blk_drew ?_ | refine blk_alloc ?_ _)); exact BK423.out) hb); have n2_ := Aside0.mk (below_step (by repeat (first | (with_reducible first | exact HB.out | apply below_alloc | apply pw_below_drewN | apply below_drew1 | refine below_set ?_ GE421.out | refine below_set ?_ GE423.out) | exact HB.out)) hb); clear BK421; clear BK423; clear HB; have BK421 := n0_; have BK423 := n1_; have HB := n2_; clear n0_ n1_ n2_; (try clear hb); (try clear hb2); (try clear hk); (try clear hi); have hcz44_0 : w43.cell? ⟨gb421, 0, none⟩ = some (.bool a2_0) := (blk_cell BK421.out 0).trans rfl; have hcz44_1 : w43.cell? ⟨gb421, 1, none⟩ = some (.bool true) := (blk_cell BK421.out 1).trans rfl; have hcz44_2 : w43.cell? ⟨gb421, 2, none⟩ = some (.int .i64 a2_2) := (blk_cell BK421.out 2).trans rfl; have hfz44_0 := blk_frozen BK421.out 0; have hfz44_1 := blk_frozen BK421.out 1; have hfz44_2 := blk_frozen BK421.out 2))
         go_ret2
         exact ⟨_, by first | rfl | (simp [errW_none, errW_some] <;> rfl) | (simp [*, errW_none, errW_some] <;> rfl), by first | exact Kd.R_nil _ _ _ _ _ | exact Kd.N_nil _ _ _ _ _ | exact Kd.V_nil _ _ _ _ _ | exact Kd.Q_nil _ _ _ _ _ | exact Kd.S_nil _ _ _ _ _, by repeat (first | (with_reducible first | exact HB.out | apply below_alloc | apply pw_below_drewN | apply below_drew1 | refine below_set ?_ GE421.out | refine below_set ?_ GE423.out) | exact HB.out)⟩
      ·
       replace c22 := Bool.eq_false_iff.mpr c22
       subst c22
       have H1 : (some (([] : List (S43)), 2)) = some (r1, r2) := by rw [if_neg (show ¬ (false = true) by decide)] at H; exact H
       clear H
       have H := H1
       clear H1
       simp only [Option.some.injEq, Prod.mk.injEq] at H
       obtain ⟨rfl, rfl⟩ := H
       have hnb45 := NB421_423.out
       have hnc45 := NB423_421.out
       have hcz46_0 : wc.cell? ⟨gb421, 0, none⟩ = some (.bool a2_0) := (blk_cell BK421.out 0).trans rfl
       have hcz46_1 : wc.cell? ⟨gb421, 1, none⟩ = some (.bool true) := (blk_cell BK421.out 1).trans rfl
       have hcz46_2 : wc.cell? ⟨gb421, 2, none⟩ = some (.int .i64 a2_2) := (blk_cell BK421.out 2).trans rfl
       have hfz46_0 := blk_frozen BK421.out 0
       have hfz46_1 := blk_frozen BK421.out 1
       have hfz46_2 := blk_frozen BK421.out 2
       have hcz47_0 : wc.cell? ⟨gb423, 0, none⟩ = some (.int .u8 ((rd_T43 l0 a1).f0)) := (blk_cell BK423.out 0).trans rfl
       have hcz47_1 : wc.cell? ⟨gb423, 1, none⟩ = some (.int .u8 ((rd_T43 l0 a1).f1)) := (blk_cell BK423.out 1).trans rfl
       have hcz47_2 : wc.cell? ⟨gb423, 2, none⟩ = some (.int .u8 ((rd_T43 l0 a1).f2)) := (blk_cell BK423.out 2).trans rfl
       have hcz47_3 : wc.cell? ⟨gb423, 3, none⟩ = some (.int .i16 ((rd_T43 l0 a1).f3)) := (blk_cell BK423.out 3).trans rfl
       have hcz47_4 : wc.cell? ⟨gb423, 4, none⟩ = some (.int .i32 ((rd_T43 l0 a1).f4)) := (blk_cell BK423.out 4).trans rfl
       have hfz47_0 := blk_frozen BK423.out 0
       have hfz47_1 := blk_frozen BK423.out 1
       have hfz47_2 := blk_frozen BK423.out 2
       have hfz47_3 := blk_frozen BK423.out 3
       have hfz47_4 := blk_frozen BK423.out 4
       go_wp2_with (first | ((with_reducible refine gate_callee (f := 38) rfl ?_); refine goesL_ (some 38) rfl rfl Try.func38 (by kernel_rfl) rfl #[.int .i16 ((rd_T43 l0 a1).f3)] rfl (by (try simp only [List.map_toArray, List.map_cons, List.map_nil]); first | done | rfl | (simp only [List.length_drop, List.length_take]; rfl)) ?_; (with_reducible refine (fix_context.calls ((rd_T43 l0 a1).f3) t424 false _ A21.out).mono ?_); rintro e w' ⟨rfl, ⟨nd, rfl⟩⟩; refine ⟨_, rfl, ?_⟩))
       go_ret2
       exact ⟨_, by first | rfl | (simp [errW_none, errW_some] <;> rfl) | (simp [*, errW_none, errW_some] <;> rfl), by first | exact Kd.R_nil _ _ _ _ _ | exact Kd.N_nil _ _ _ _ _ | exact Kd.V_nil _ _ _ _ _ | exact Kd.Q_nil _ _ _ _ _ | exact Kd.S_nil _ _ _ _ _, by repeat (first | (with_reducible first | exact HB.out | apply below_alloc | apply pw_below_drewN | apply below_drew1 | refine below_set ?_ GE421.out | refine below_set ?_ GE423.out) | exact HB.out)⟩
     ·
      replace c20 := Bool.eq_false_iff.mpr c20
      subst c20
      have H1 : (if a2_2 = 0 then ((insn_Wide.f ((rd_T43 l0 a1).f0)).bind fun t430 => (if t430 = true then (if 0 ≤ (wrap64 (a1 + 1)) then (if (wrap64 (a1 + 1)) < (l0.length : Int) then ((insn_Long.f ((rd_T43 l0 a1).f0) ((rd_T43 l0 a1).f1) ((rd_T43 l0 a1).f2) ((rd_T43 l0 a1).f3) ((rd_T43 l0 a1).f4) ((rd_T43 l0 (wrap64 (a1 + 1))).f0) ((rd_T43 l0 (wrap64 (a1 + 1))).f1) ((rd_T43 l0 (wrap64 (a1 + 1))).f2) ((rd_T43 l0 (wrap64 (a1 + 1))).f3) ((rd_T43 l0 (wrap64 (a1 + 1))).f4)).bind fun t432 => (if ((rd_T43 l0 a1).f2) = 1 then ((insn_Split.f ((rd_T43 l0 a1).f1) 0 (IntKind.u64.wrap (t432 + 281474976710656))).bind fun t433 => (some (t433, 0))) else ((insn_Split.f ((rd_T43 l0 a1).f1) 0 t432).bind fun t436 => (some (t436, 0))))) else (none)) else (none)) else (some ((([(⟨((rd_T43 l0 a1).f0), ((rd_T43 l0 a1).f1), ((rd_T43 l0 a1).f2), ((rd_T43 l0 a1).f3), ((rd_T43 l0 a1).f4)⟩ : S43)] : List (S43))), 0)))) else (if x11_6 = true then (if a2_2 < 0 then (some (([] : List (S43)), 2)) else (if a2_2 > (l3.length : Int) then (some (([] : List (S43)), 2)) else (if 0 ≤ (wrap64 (a2_2 - 1)) then (if (wrap64 (a2_2 - 1)) < (l3.length : Int) then (if ((rd_T80 l3 (wrap64 (a2_2 - 1))).f0) = 0 then ((fix_lookup.f (wrap64 (a2_2 - 1)) ((rd_T80 l3 (wrap64 (a2_2 - 1))).f0) ((rd_T80 l3 (wrap64 (a2_2 - 1))).f1) ((rd_T80 l3 (wrap64 (a2_2 - 1))).f2) ((rd_T80 l3 (wrap64 (a2_2 - 1))).f3)).bind fun t444 => (some (t444, 0))) else (some (([] : List (S43)), 2))) else (none)) else (none)))) else (some (([] : List (S43)), 2)))) = some (r1, r2) := by rw [if_neg (show ¬ (false = true) by decide)] at H; exact H
      clear H
      have H := H1
      clear H1
      by_cases c48 : a2_2 = 0
      ·
       rw [if_pos c48] at H
       have c48b0 : (a2_2 == 0) = true := beq_iff_eq.mpr c48
       have c48b1 : (a2_2 != 0) = false := bne_eq_false_iff_eq.mpr c48
       clear c48
       replace H := Option.bind_eq_some_iff.mp H
       obtain ⟨t430, A490, H⟩ := H
       replace H : (if t430 = true then (if 0 ≤ (wrap64 (a1 + 1)) then (if (wrap64 (a1 + 1)) < (l0.length : Int) then ((insn_Long.f ((rd_T43 l0 a1).f0) ((rd_T43 l0 a1).f1) ((rd_T43 l0 a1).f2) ((rd_T43 l0 a1).f3) ((rd_T43 l0 a1).f4) ((rd_T43 l0 (wrap64 (a1 + 1))).f0) ((rd_T43 l0 (wrap64 (a1 + 1))).f1) ((rd_T43 l0 (wrap64 (a1 + 1))).f2) ((rd_T43 l0 (wrap64 (a1 + 1))).f3) ((rd_T43 l0 (wrap64 (a1 + 1))).f4)).bind fun t432 => (if ((rd_T43 l0 a1).f2) = 1 then ((insn_Split.f ((rd_T43 l0 a1).f1) 0 (IntKind.u64.wrap (t432 + 281474976710656))).bind fun t433 => (some (t433, 0))) else ((insn_Split.f ((rd_T43 l0 a1).f1) 0 t432).bind fun t436 => (some (t436, 0))))) else (none)) else (none)) else (some ((([(⟨((rd_T43 l0 a1).f0), ((rd_T43 l0 a1).f1), ((rd_T43 l0 a1).f2), ((rd_T43 l0 a1).f3), ((rd_T43 l0 a1).f4)⟩ : S43)] : List (S43))), 0))) = some (r1, r2) := H
       have A49 := Aside0.mk A490
       clear A490
       by_cases c50 : t430 = true
       ·
        subst c50
        have H1 : (if 0 ≤ (wrap64 (a1 + 1)) then (if (wrap64 (a1 + 1)) < (l0.length : Int) then ((insn_Long.f ((rd_T43 l0 a1).f0) ((rd_T43 l0 a1).f1) ((rd_T43 l0 a1).f2) ((rd_T43 l0 a1).f3) ((rd_T43 l0 a1).f4) ((rd_T43 l0 (wrap64 (a1 + 1))).f0) ((rd_T43 l0 (wrap64 (a1 + 1))).f1) ((rd_T43 l0 (wrap64 (a1 + 1))).f2) ((rd_T43 l0 (wrap64 (a1 + 1))).f3) ((rd_T43 l0 (wrap64 (a1 + 1))).f4)).bind fun t432 => (if ((rd_T43 l0 a1).f2) = 1 then ((insn_Split.f ((rd_T43 l0 a1).f1) 0 (IntKind.u64.wrap (t432 + 281474976710656))).bind fun t433 => (some (t433, 0))) else ((insn_Split.f ((rd_T43 l0 a1).f1) 0 t432).bind fun t436 => (some (t436, 0))))) else (none)) else (none)) = some (r1, r2) := by rw [if_pos rfl] at H; exact H
        clear H
        have H := H1
        clear H1
        obtain ⟨ji51, hji51⟩ : ∃ j_ : Int, (wrap64 (a1 + 1)) = j_ := ⟨_, rfl⟩
        replace H : (if 0 ≤ (ji51) then (if (ji51) < (l0.length : Int) then ((insn_Long.f ((rd_T43 l0 a1).f0) ((rd_T43 l0 a1).f1) ((rd_T43 l0 a1).f2) ((rd_T43 l0 a1).f3) ((rd_T43 l0 a1).f4) ((rd_T43 l0 (ji51)).f0) ((rd_T43 l0 (ji51)).f1) ((rd_T43 l0 (ji51)).f2) ((rd_T43 l0 (ji51)).f3) ((rd_T43 l0 (ji51)).f4)).bind fun t432 => (if ((rd_T43 l0 a1).f2) = 1 then ((insn_Split.f ((rd_T43 l0 a1).f1) 0 (IntKind.u64.wrap (t432 + 281474976710656))).bind fun t433 => (some (t433, 0))) else ((insn_Split.f ((rd_T43 l0 a1).f1) 0 t432).bind fun t436 => (some (t436, 0))))) else (none)) else (none)) = some (r1, r2) := by first | (rw [hji51] at H; exact H) | (simp only [hji51] at H ⊢; exact H)
        (try rw [hji51] at A49)
        have hji51w : (IntKind.i64.wrap (a1 + 1)) = ji51 := (i64_w _).trans hji51
        by_cases c52 : 0 ≤ (ji51)
        ·
         rw [if_pos c52] at H
         have c52b0 : decide (0 ≤ (ji51)) = true := decide_eq_true c52
         clear c52
         by_cases c53 : (ji51) < (l0.length : Int)
         ·
          rw [if_pos c53] at H
          have c53b0 : decide ((ji51) < (l0.length : Int)) = true := decide_eq_true c53
          clear c53
          replace H := Option.bind_eq_some_iff.mp H
          obtain ⟨t432, A540, H⟩ := H
          replace H : (if ((rd_T43 l0 a1).f2) = 1 then ((insn_Split.f ((rd_T43 l0 a1).f1) 0 (IntKind.u64.wrap (t432 + 281474976710656))).bind fun t433 => (some (t433, 0))) else ((insn_Split.f ((rd_T43 l0 a1).f1) 0 t432).bind fun t436 => (some (t436, 0)))) = some (r1, r2) := H
          have A54 := Aside0.mk A540
          clear A540
          by_cases c55 : ((rd_T43 l0 a1).f2) = 1
          ·
           rw [if_pos c55] at H
           have c55b0 : (((rd_T43 l0 a1).f2) == 1) = true := beq_iff_eq.mpr c55
           have c55b1 : (((rd_T43 l0 a1).f2) != 1) = false := bne_eq_false_iff_eq.mpr c55
           clear c55
           replace H := Option.bind_eq_some_iff.mp H
           obtain ⟨t433, A560, H⟩ := H
           replace H : (some (t433, 0)) = some (r1, r2) := H
           have A56 := Aside0.mk A560
           clear A560
           simp only [Option.some.injEq, Prod.mk.injEq] at H
           obtain ⟨rfl, rfl⟩ := H
           have hnb57 := NB421_423.out
           have hnc57 := NB423_421.out
           have hcz58_0 : wc.cell? ⟨gb421, 0, none⟩ = some (.bool a2_0) := (blk_cell BK421.out 0).trans rfl
           have hcz58_1 : wc.cell? ⟨gb421, 1, none⟩ = some (.bool false) := (blk_cell BK421.out 1).trans rfl
           have hcz58_2 : wc.cell? ⟨gb421, 2, none⟩ = some (.int .i64 a2_2) := (blk_cell BK421.out 2).trans rfl
           have hfz58_0 := blk_frozen BK421.out 0
           have hfz58_1 := blk_frozen BK421.out 1
           have hfz58_2 := blk_frozen BK421.out 2
           have hcz59_0 : wc.cell? ⟨gb423, 0, none⟩ = some (.int .u8 ((rd_T43 l0 a1).f0)) := (blk_cell BK423.out 0).trans rfl
           have hcz59_1 : wc.cell? ⟨gb423, 1, none⟩ = some (.int .u8 ((rd_T43 l0 a1).f1)) := (blk_cell BK423.out 1).trans rfl
           have hcz59_2 : wc.cell? ⟨gb423, 2, none⟩ = some (.int .u8 ((rd_T43 l0 a1).f2)) := (blk_cell BK423.out 2).trans rfl
           have hcz59_3 : wc.cell? ⟨gb423, 3, none⟩ = some (.int .i16 ((rd_T43 l0 a1).f3)) := (blk_cell BK423.out 3).trans rfl
           have hcz59_4 : wc.cell? ⟨gb423, 4, none⟩ = some (.int .i32 ((rd_T43 l0 a1).f4)) := (blk_cell BK423.out 4).trans rfl
           have hfz59_0 := blk_frozen BK423.out 0
           have hfz59_1 := blk_frozen BK423.out 1
           have hfz59_2 := blk_frozen BK423.out 2
           have hfz59_3 := blk_frozen BK423.out 3
           have hfz59_4 := blk_frozen BK423.out 4
           try go_wp2_with (first | ((with_reducible refine gate_callee (f := 18) rfl ?_); refine goesL_ (some 97) rfl rfl Try.func18 (by kernel_rfl) rfl #[.int .u8 ((rd_T43 l0 a1).f0)] rfl (by (try simp only [List.map_toArray, List.map_cons, List.map_nil]); first | done | rfl | (simp only [List.length_drop, List.length_take]; rfl)) ?_; (with_reducible refine (insn_Wide.calls ((rd_T43 l0 a1).f0) true _ A49.out).mono ?_); rintro e w' ⟨rfl, ⟨nd, rfl⟩⟩; refine ⟨_, rfl, ?_⟩))
           (try (rw [drewN_self wc]; generalize hq_ : World.drewN wc _ = wc; have n0_ : Aside0 (wc.heap[gb421]? = some (.cells #[.bool a2_0, .bool false, .int .i64 a2_2] 34 (0, 0))) := ⟨by rw [← hq_]; exact (by (with_reducible repeat (first | refine blk_drewN ?_ _ | refine blk_drew ?_ | refine blk_alloc ?_ _)); exact BK421.out)⟩; have n1_ : Aside0 (wc.heap[gb423]? = some (.cells #[.int .u8 ((rd_T43 l0 a1).f0), .int .u8 ((rd_T43 l0 a1).f1), .int .u8 ((rd_T43 l0 a1).f2), .int .i16 ((rd_T43 l0 a1).f3), .int .i32 ((rd_T43 l0 a1).f4)] 43 (0, 0))) := ⟨by rw [← hq_]; exact (by (with_reducible repeat (first | refine blk_drewN ?_ _ | refine blk_drew ?_ | refine blk_alloc ?_ _)); exact BK423.out)⟩; have n2_ : Aside0 (Below w.heap.size w wc) := ⟨by rw [← hq_]; exact (by repeat (first | (with_reducible first | exact HB.out | apply below_alloc | apply pw_below_drewN | apply below_drew1 | refine below_set ?_ GE421.out | refine below_set ?_ GE423.out) | exact HB.out))⟩; clear BK421 BK423 HB hq_; have BK421 := n0_; have BK423 := n1_; have HB := n2_; clear n0_ n1_ n2_))
           (try have hczu60_0 : wc.cell? ⟨gb421, 0, none⟩ = some (.bool a2_0) := (blk_cell BK421.out 0).trans rfl)
           (try have hczu60_1 : wc.cell? ⟨gb421, 1, none⟩ = some (.bool false) := (blk_cell BK421.out 1).trans rfl)
           (try have hczu60_2 : wc.cell? ⟨gb421, 2, none⟩ = some (.int .i64 a2_2) := (blk_cell BK421.out 2).trans rfl)
           have hfzu60_0 := blk_frozen BK421.out 0
           have hfzu60_1 := blk_frozen BK421.out 1
           have hfzu60_2 := blk_frozen BK421.out 2
           (try have hczu61_0 : wc.cell? ⟨gb423, 0, none⟩ = some (.int .u8 ((rd_T43 l0 a1).f0)) := (blk_cell BK423.out 0).trans rfl)
           (try have hczu61_1 : wc.cell? ⟨gb423, 1, none⟩ = some (.int .u8 ((rd_T43 l0 a1).f1)) := (blk_cell BK423.out 1).trans rfl)
           (try have hczu61_2 : wc.cell? ⟨gb423, 2, none⟩ = some (.int .u8 ((rd_T43 l0 a1).f2)) := (blk_cell BK423.out 2).trans rfl)
           (try have hczu61_3 : wc.cell? ⟨gb423, 3, none⟩ = some (.int .i16 ((rd_T43 l0 a1).f3)) := (blk_cell BK423.out 3).trans rfl)
           (try have hczu61_4 : wc.cell? ⟨gb423, 4, none⟩ = some (.int .i32 ((rd_T43 l0 a1).f4)) := (blk_cell BK423.out 4).trans rfl)
           have hfzu61_0 := blk_frozen BK423.out 0
           have hfzu61_1 := blk_frozen BK423.out 1
           have hfzu61_2 := blk_frozen BK423.out 2
           have hfzu61_3 := blk_frozen BK423.out 3
           have hfzu61_4 := blk_frozen BK423.out 4
           have n0_ := Aside0.mk (blk_drew BK421.out)
           have n1_ := Aside0.mk (blk_drew BK423.out)
           have n2_ := Aside0.mk (below_drew1 HB.out)
           clear BK421
           clear BK423
           clear HB
           have BK421 := n0_
           have BK423 := n1_
           have HB := n2_
           clear n0_ n1_ n2_
           have p431 : 0 ≤ ((ji51) : Int) := of_decide_eq_true (by first | (with_reducible assumption) | assumption)
           have q431 : (ji51) < (l0.length : Int) := of_decide_eq_true (by first | (with_reducible assumption) | assumption)
           obtain ⟨ad431, e431, hx431_0, hx431_1, hx431_2, hx431_3, hx431_4⟩ := at_T43 HR0.out (ji51) p431 q431
           have hw431_4 := hx431_4
           have hw431_3 := hx431_3
           have hw431_2 := hx431_2
           have hw431_1 := hx431_1
           have hw431_0 := hx431_0
           obtain rfl : ad422 = ad431 := (by injection e431)
           replace hx431_0 := (HB.out.cell (World.block_lt_of_cell? w _ hx431_0)).trans hx431_0
           replace hx431_1 := (HB.out.cell (World.block_lt_of_cell? w _ hx431_1)).trans hx431_1
           replace hx431_2 := (HB.out.cell (World.block_lt_of_cell? w _ hx431_2)).trans hx431_2
           replace hx431_3 := (HB.out.cell (World.block_lt_of_cell? w _ hx431_3)).trans hx431_3
           replace hx431_4 := (HB.out.cell (World.block_lt_of_cell? w _ hx431_4)).trans hx431_4
           replace p431 := eq_true p431
           replace q431 := eq_true q431
           refine start_ (n := 8) (S := fun w' => w'.cell? ⟨gb423, 0, none⟩ = some (.int .u8 ((rd_T43 l0 a1).f0)) ∧ w'.cell? ⟨gb423, 1, none⟩ = some (.int .u8 ((rd_T43 l0 a1).f1)) ∧ w'.cell? ⟨gb423, 2, none⟩ = some (.int .u8 ((rd_T43 l0 a1).f2)) ∧ w'.cell? ⟨gb423, 3, none⟩ = some (.int .i16 ((rd_T43 l0 a1).f3)) ∧ w'.cell? ⟨gb423, 4, none⟩ = some (.int .i32 ((rd_T43 l0 a1).f4)) ∧ w'.cell? (ad422.add (((ji51)).toNat * 5)) = some (.int .u8 ((rd_T43 l0 (ji51)).f0)) ∧ w'.cell? ⟨(ad422.add (((ji51)).toNat * 5)).block, (ad422.add (((ji51)).toNat * 5)).off + 1, none⟩ = some (.int .u8 ((rd_T43 l0 (ji51)).f1)) ∧ w'.cell? ⟨(ad422.add (((ji51)).toNat * 5)).block, (ad422.add (((ji51)).toNat * 5)).off + 2, none⟩ = some (.int .u8 ((rd_T43 l0 (ji51)).f2)) ∧ w'.cell? ⟨(ad422.add (((ji51)).toNat * 5)).block, (ad422.add (((ji51)).toNat * 5)).off + 3, none⟩ = some (.int .i16 ((rd_T43 l0 (ji51)).f3)) ∧ w'.cell? ⟨(ad422.add (((ji51)).toNat * 5)).block, (ad422.add (((ji51)).toNat * 5)).off + 4, none⟩ = some (.int .i32 ((rd_T43 l0 (ji51)).f4))) (ds := []) #[false, false, false, false, false, false, false, false] (by kernel_rfl) rfl rfl ⟨(blk_cell BK423.out 0).trans rfl, (blk_cell BK423.out 1).trans rfl, (blk_cell BK423.out 2).trans rfl, (blk_cell BK423.out 3).trans rfl, (blk_cell BK423.out 4).trans rfl, ((HB.out.cell (World.block_lt_of_cell? w _ hw431_0)).trans hw431_0), ((HB.out.cell (World.block_lt_of_cell? w _ hw431_1)).trans hw431_1), ((HB.out.cell (World.block_lt_of_cell? w _ hw431_2)).trans hw431_2), ((HB.out.cell (World.block_lt_of_cell? w _ hw431_3)).trans hw431_3), ((HB.out.cell (World.block_lt_of_cell? w _ hw431_4)).trans hw431_4)⟩ (fun hHeld => ?_); refine with_tabW fix_becomes.tab13 fix_becomes.bits13 (fun HT_ HW_ => ?_)
           generalize wc.drew = w62 at BK421 BK423 HB hx431_0 hx431_1 hx431_2 hx431_3 hx431_4 hHeld ⊢
           refine pure_ (i := 1) (N := some 99) (v := ?_) (a' := ?_) #[false, true, false, false, false, false, false, false] rfl rfl (any_of HT_.out (by kernel_rfl)) (fun _ _ _ h => h) (Or.inl ⟨by rfl, ?_⟩) ?_ ?_
           rotate_left
           ·
            intro w'
            go_simp
            with_reducible rfl
           rotate_left
           ·
            simp only [Act.put, List.setIfInBounds_toArray, List.set_cons_zero, List.set_cons_succ, i64_w, i32_w]
            rfl
           refine pure_ (i := 2) (N := some 100) (v := ?_) (a' := ?_) #[false, true, true, false, false, false, false, false] rfl rfl (any_of HT_.out (by kernel_rfl)) (fun _ _ _ h => h) (Or.inl ⟨by rfl, ?_⟩) ?_ ?_
           rotate_left
           ·
            intro w'
            go_simp
            with_reducible rfl
           rotate_left
           ·
            simp only [Act.put, List.setIfInBounds_toArray, List.set_cons_zero, List.set_cons_succ, i64_w, i32_w]
            rfl
           refine pure_ (i := 3) (N := some 101) (v := ?_) (a' := ?_) #[false, true, true, true, false, false, false, false] rfl rfl (any_of HT_.out (by kernel_rfl)) (fun _ _ _ h => h) (Or.inl ⟨by rfl, ?_⟩) ?_ ?_
           rotate_left
           ·
            intro w'
            go_simp
            with_reducible rfl
           rotate_left
           ·
            simp only [Act.put, List.setIfInBounds_toArray, List.set_cons_zero, List.set_cons_succ, i64_w, i32_w]
            rfl
           refine pure_ (i := 4) (N := some 102) (v := ?_) (a' := ?_) #[false, true, true, true, true, false, false, false] rfl rfl (any_of HT_.out (by kernel_rfl)) (fun _ _ _ h => h) (Or.inl ⟨by rfl, ?_⟩) ?_ ?_
           rotate_left
           ·
            intro w'
            go_simp
            with_reducible rfl
           rotate_left
           ·
            simp only [Act.put, List.setIfInBounds_toArray, List.set_cons_zero, List.set_cons_succ, i64_w, i32_w]
            rfl
           refine take_ (i := 0) (N := some 98) (v := ?_) (a' := ?_) #[true, true, true, true, true, false, false, false] rfl rfl (take_ofW HT_.out HW_.out (by kernel_rfl)) (fun _ _ _ h => h) (Or.inl ⟨by rfl, ?_⟩) hHeld ?_ ?_
           rotate_left
           ·
            rintro w' ⟨s0, s1, s2, s3, s4, s5, s6, s7, s8, s9⟩
            go_simp
            with_reducible rfl
           rotate_left
           ·
            simp only [Act.put, List.setIfInBounds_toArray, List.set_cons_zero, List.set_cons_succ, i64_w, i32_w]
            rfl
           refine take_ (i := 5) (N := some 103) (v := ?_) (a' := ?_) #[true, true, true, true, true, true, false, false] rfl rfl (take_ofW HT_.out HW_.out (by kernel_rfl)) (fun _ _ _ h => h) (Or.inl ⟨by rfl, ?_⟩) hHeld ?_ ?_
           rotate_left
           ·
            rintro w' ⟨s0, s1, s2, s3, s4, s5, s6, s7, s8, s9⟩
            go_simp
            with_reducible rfl
           rotate_left
           ·
            simp only [Act.put, List.setIfInBounds_toArray, List.set_cons_zero, List.set_cons_succ, i64_w, i32_w]
            rfl
           refine one_ (i := 6) (N := some 104) #[true, true, true, true, true, true, true, false] rfl rfl (one_of HT_.out (by kernel_rfl)) (by decide) (fun K hK => ?_)
           refine goes_ Try.func41 (by kernel_rfl) rfl #[.agg #[.int .u8 ((rd_T43 l0 a1).f0), .int .u8 ((rd_T43 l0 a1).f1), .int .u8 ((rd_T43 l0 a1).f2), .int .i16 ((rd_T43 l0 a1).f3), .int .i32 ((rd_T43 l0 a1).f4)], .agg #[.int .u8 ((rd_T43 l0 (ji51)).f0), .int .u8 ((rd_T43 l0 (ji51)).f1), .int .u8 ((rd_T43 l0 (ji51)).f2), .int .i16 ((rd_T43 l0 (ji51)).f3), .int .i32 ((rd_T43 l0 (ji51)).f4)]] (by rfl) rfl rfl (by (try simp only [List.map_toArray, List.map_cons, List.map_nil]); first | done | (simp only [hji51]; rfl) | rfl | (simp only [List.length_drop, List.length_take]; rfl)) ?_
           with_reducible refine (insn_Long.calls ((rd_T43 l0 a1).f0) ((rd_T43 l0 a1).f1) ((rd_T43 l0 a1).f2) ((rd_T43 l0 a1).f3) ((rd_T43 l0 a1).f4) ((rd_T43 l0 (ji51)).f0) ((rd_T43 l0 (ji51)).f1) ((rd_T43 l0 (ji51)).f2) ((rd_T43 l0 (ji51)).f3) ((rd_T43 l0 (ji51)).f4) t432 _ A54.out).mono ?_
           rintro e w63 ⟨rfl, hb⟩
           refine ⟨_, rfl, ?_⟩
           have n0_ := Aside0.mk (blk_below (g := gb421) (o := .cells #[.bool a2_0, .bool false, .int .i64 a2_2] 34 (0, 0)) (by (with_reducible repeat (first | refine blk_drewN ?_ _ | refine blk_drew ?_ | refine blk_alloc ?_ _)); exact BK421.out) hb)
           have n1_ := Aside0.mk (blk_below (g := gb423) (o := .cells #[.int .u8 ((rd_T43 l0 a1).f0), .int .u8 ((rd_T43 l0 a1).f1), .int .u8 ((rd_T43 l0 a1).f2), .int .i16 ((rd_T43 l0 a1).f3), .int .i32 ((rd_T43 l0 a1).f4)] 43 (0, 0)) (by (with_reducible repeat (first | refine blk_drewN ?_ _ | refine blk_drew ?_ | refine blk_alloc ?_ _)); exact BK423.out) hb)
           have n2_ := Aside0.mk (below_step (by repeat (first | (with_reducible first | exact HB.out | apply below_alloc | apply pw_below_drewN | apply below_drew1 | refine below_set ?_ GE421.out | refine below_set ?_ GE423.out) | exact HB.out)) hb)
           clear BK421
           clear BK423
           clear HB
           have BK421 := n0_
           have BK423 := n1_
           have HB := n2_
           clear n0_ n1_ n2_
           (try clear hb)
           (try clear hb2)
           (try clear hk)
           (try clear hi)
           refine hK.out _ _ ⟨(blk_cell BK423.out 0).trans rfl, (blk_cell BK423.out 1).trans rfl, (blk_cell BK423.out 2).trans rfl, (blk_cell BK423.out 3).trans rfl, (blk_cell BK423.out 4).trans rfl, ((HB.out.cell (World.block_lt_of_cell? w _ hw431_0)).trans hw431_0), ((HB.out.cell (World.block_lt_of_cell? w _ hw431_1)).trans hw431_1), ((HB.out.cell (World.block_lt_of_cell? w _ hw431_2)).trans hw431_2), ((HB.out.cell (World.block_lt_of_cell? w _ hw431_3)).trans hw431_3), ((HB.out.cell (World.block_lt_of_cell? w _ hw431_4)).trans hw431_4)⟩ (fun hHeld => ?_)
           clear hK K
           refine norm_ (a' := ?_) ?_ ?_
           rotate_left
           ·
            show Act.put _ (some 104) _ = _
            simp only [Act.put, List.setIfInBounds_toArray, List.set_cons_zero, List.set_cons_succ, i64_w, i32_w]
            rfl
           refine pure_ (i := 7) (N := some 14) (v := ?_) (a' := ?_) #[true, true, true, true, true, true, true, true] rfl rfl (any_of HT_.out (by kernel_rfl)) (fun _ _ _ h => h) (Or.inl ⟨by rfl, ?_⟩) ?_ ?_
           rotate_left
           ·
            intro w'
            go_simp
            with_reducible rfl
           rotate_left
           ·
            simp only [Act.put, List.setIfInBounds_toArray, List.set_cons_zero, List.set_cons_succ, i64_w, i32_w]
            rfl
           refine done_ (done_of HT_.out (by kernel_rfl)) ?_
           have hcz64_0 : w63.cell? ⟨gb423, 0, none⟩ = some (.int .u8 ((rd_T43 l0 a1).f0)) := (blk_cell BK423.out 0).trans rfl
           have hcz64_1 : w63.cell? ⟨gb423, 1, none⟩ = some (.int .u8 ((rd_T43 l0 a1).f1)) := (blk_cell BK423.out 1).trans rfl
           have hcz64_2 : w63.cell? ⟨gb423, 2, none⟩ = some (.int .u8 ((rd_T43 l0 a1).f2)) := (blk_cell BK423.out 2).trans rfl
           have hcz64_3 : w63.cell? ⟨gb423, 3, none⟩ = some (.int .i16 ((rd_T43 l0 a1).f3)) := (blk_cell BK423.out 3).trans rfl
           have hcz64_4 : w63.cell? ⟨gb423, 4, none⟩ = some (.int .i32 ((rd_T43 l0 a1).f4)) := (blk_cell BK423.out 4).trans rfl
           have hfz64_0 := blk_frozen BK423.out 0
           have hfz64_1 := blk_frozen BK423.out 1
           have hfz64_2 := blk_frozen BK423.out 2
           have hfz64_3 := blk_frozen BK423.out 3
           have hfz64_4 := blk_frozen BK423.out 4
           try go_wp2_with (first | ((with_reducible refine gate_callee (f := 42) rfl ?_); refine goesL_ (some 113) rfl rfl Try.func42 (by kernel_rfl) rfl #[.int .u8 ((rd_T43 l0 a1).f1), .int .u8 0, .int .u64 (IntKind.u64.wrap (t432 + 281474976710656))] rfl (by (try simp only [List.map_toArray, List.map_cons, List.map_nil]); first | done | rfl | (simp only [List.length_drop, List.length_take]; rfl)) ?_; (with_reducible refine (insn_Split.calls ((rd_T43 l0 a1).f1) 0 (IntKind.u64.wrap (t432 + 281474976710656)) t433 _ A56.out).mono ?_); rintro e w65 ⟨v434, rfl, ho0, hb⟩; refine ⟨_, rfl, ?_⟩; have n0_ := Aside0.mk (Kd.R_lower (Kd.R_newB ho0 (g := gb423) (o := .cells #[.int .u8 ((rd_T43 l0 a1).f0), .int .u8 ((rd_T43 l0 a1).f1), .int .u8 ((rd_T43 l0 a1).f2), .int .i16 ((rd_T43 l0 a1).f3), .int .i32 ((rd_T43 l0 a1).f4)] 43 (0, 0)) (by (with_reducible repeat (first | refine blk_drewN ?_ _ | refine blk_drew ?_ | refine blk_alloc ?_ _)); exact BK423.out)) (below_size (by repeat (first | (with_reducible first | exact HB.out | apply below_alloc | apply pw_below_drewN | apply below_drew1 | refine below_set ?_ GE421.out | refine below_set ?_ GE423.out) | exact HB.out)))); have n1_ := Aside0.mk (blk_below (g := gb421) (o := .cells #[.bool a2_0, .bool false, .int .i64 a2_2] 34 (0, 0)) (by (with_reducible repeat (first | refine blk_drewN ?_ _ | refine blk_drew ?_ | refine blk_alloc ?_ _)); exact BK421.out) hb); have n2_ := Aside0.mk (blk_below (g := gb423) (o := .cells #[.int .u8 ((rd_T43 l0 a1).f0), .int .u8 ((rd_T43 l0 a1).f1), .int .u8 ((rd_T43 l0 a1).f2), .int .i16 ((rd_T43 l0 a1).f3), .int .i32 ((rd_T43 l0 a1).f4)] 43 (0, 0)) (by (with_reducible repeat (first | refine blk_drewN ?_ _ | refine blk_drew ?_ | refine blk_alloc ?_ _)); exact BK423.out) hb); have n3_ := Aside0.mk (below_step (by repeat (first | (with_reducible first | exact HB.out | apply below_alloc | apply pw_below_drewN | apply below_drew1 | refine below_set ?_ GE421.out | refine below_set ?_ GE423.out) | exact HB.out)) hb); clear BK421; clear BK423; clear HB; have HO435 := n0_; have BK421 := n1_; have BK423 := n2_; have HB := n3_; clear n0_ n1_ n2_ n3_; (try clear hb); (try clear hb2); (try clear hk); (try clear hi); (try clear ho0)))
           go_ret2
           exact ⟨_, by first | rfl | (simp [errW_none, errW_some] <;> rfl) | (simp only [← hji51]; first | rfl | (simp [errW_none, errW_some] <;> rfl)) | (simp [*, errW_none, errW_some] <;> rfl), by (with_reducible repeat (first | apply Kd.R_alloc | apply Kd.R_drewN | apply Kd.R_drew)); exact Kd.R_mono HO435.out (fun _ hk => trivial), by repeat (first | (with_reducible first | exact HB.out | apply below_alloc | apply pw_below_drewN | apply below_drew1 | refine below_set ?_ GE421.out | refine below_set ?_ GE423.out) | exact HB.out)⟩
          ·
           rw [if_neg c55] at H
           have c55b0 : (((rd_T43 l0 a1).f2) == 1) = false := beq_eq_false_iff_ne.mpr c55
           have c55b1 : (((rd_T43 l0 a1).f2) != 1) = true := bne_iff_ne.mpr c55
           replace H := Option.bind_eq_some_iff.mp H
           obtain ⟨t436, A660, H⟩ := H
           replace H : (some (t436, 0)) = some (r1, r2) := H
           have A66 := Aside0.mk A660
           clear A660
           simp only [Option.some.injEq, Prod.mk.injEq] at H
           obtain ⟨rfl, rfl⟩ := H
           have hnb67 := NB421_423.out
           have hnc67 := NB423_421.out
           have hcz68_0 : wc.cell? ⟨gb421, 0, none⟩ = some (.bool a2_0) := (blk_cell BK421.out 0).trans rfl
           have hcz68_1 : wc.cell? ⟨gb421, 1, none⟩ = some (.bool false) := (blk_cell BK421.out 1).trans rfl
           have hcz68_2 : wc.cell? ⟨gb421, 2, none⟩ = some (.int .i64 a2_2) := (blk_cell BK421.out 2).trans rfl
           have hfz68_0 := blk_frozen BK421.out 0
           have hfz68_1 := blk_frozen BK421.out 1
           have hfz68_2 := blk_frozen BK421.out 2
           have hcz69_0 : wc.cell? ⟨gb423, 0, none⟩ = some (.int .u8 ((rd_T43 l0 a1).f0)) := (blk_cell BK423.out 0).trans rfl
           have hcz69_1 : wc.cell? ⟨gb423, 1, none⟩ = some (.int .u8 ((rd_T43 l0 a1).f1)) := (blk_cell BK423.out 1).trans rfl
           have hcz69_2 : wc.cell? ⟨gb423, 2, none⟩ = some (.int .u8 ((rd_T43 l0 a1).f2)) := (blk_cell BK423.out 2).trans rfl
           have hcz69_3 : wc.cell? ⟨gb423, 3, none⟩ = some (.int .i16 ((rd_T43 l0 a1).f3)) := (blk_cell BK423.out 3).trans rfl
           have hcz69_4 : wc.cell? ⟨gb423, 4, none⟩ = some (.int .i32 ((rd_T43 l0 a1).f4)) := (blk_cell BK423.out 4).trans rfl
           have hfz69_0 := blk_frozen BK423.out 0
           have hfz69_1 := blk_frozen BK423.out 1
           have hfz69_2 := blk_frozen BK423.out 2
           have hfz69_3 := blk_frozen BK423.out 3
           have hfz69_4 := blk_frozen BK423.out 4
           try go_wp2_with (first | ((with_reducible refine gate_callee (f := 18) rfl ?_); refine goesL_ (some 97) rfl rfl Try.func18 (by kernel_rfl) rfl #[.int .u8 ((rd_T43 l0 a1).f0)] rfl (by (try simp only [List.map_toArray, List.map_cons, List.map_nil]); first | done | rfl | (simp only [List.length_drop, List.length_take]; rfl)) ?_; (with_reducible refine (insn_Wide.calls ((rd_T43 l0 a1).f0) true _ A49.out).mono ?_); rintro e w' ⟨rfl, ⟨nd, rfl⟩⟩; refine ⟨_, rfl, ?_⟩))
           (try (rw [drewN_self wc]; generalize hq_ : World.drewN wc _ = wc; have n0_ : Aside0 (wc.heap[gb421]? = some (.cells #[.bool a2_0, .bool false, .int .i64 a2_2] 34 (0, 0))) := ⟨by rw [← hq_]; exact (by (with_reducible repeat (first | refine blk_drewN ?_ _ | refine blk_drew ?_ | refine blk_alloc ?_ _)); exact BK421.out)⟩; have n1_ : Aside0 (wc.heap[gb423]? = some (.cells #[.int .u8 ((rd_T43 l0 a1).f0), .int .u8 ((rd_T43 l0 a1).f1), .int .u8 ((rd_T43 l0 a1).f2), .int .i16 ((rd_T43 l0 a1).f3), .int .i32 ((rd_T43 l0 a1).f4)] 43 (0, 0))) := ⟨by rw [← hq_]; exact (by (with_reducible repeat (first | refine blk_drewN ?_ _ | refine blk_drew ?_ | refine blk_alloc ?_ _)); exact BK423.out)⟩; have n2_ : Aside0 (Below w.heap.size w wc) := ⟨by rw [← hq_]; exact (by repeat (first | (with_reducible first | exact HB.out | apply below_alloc | apply pw_below_drewN | apply below_drew1 | refine below_set ?_ GE421.out | refine below_set ?_ GE423.out) | exact HB.out))⟩; clear BK421 BK423 HB hq_; have BK421 := n0_; have BK423 := n1_; have HB := n2_; clear n0_ n1_ n2_))
           (try have hczu70_0 : wc.cell? ⟨gb421, 0, none⟩ = some (.bool a2_0) := (blk_cell BK421.out 0).trans rfl)
           (try have hczu70_1 : wc.cell? ⟨gb421, 1, none⟩ = some (.bool false) := (blk_cell BK421.out 1).trans rfl)
           (try have hczu70_2 : wc.cell? ⟨gb421, 2, none⟩ = some (.int .i64 a2_2) := (blk_cell BK421.out 2).trans rfl)
           have hfzu70_0 := blk_frozen BK421.out 0
           have hfzu70_1 := blk_frozen BK421.out 1
           have hfzu70_2 := blk_frozen BK421.out 2
           (try have hczu71_0 : wc.cell? ⟨gb423, 0, none⟩ = some (.int .u8 ((rd_T43 l0 a1).f0)) := (blk_cell BK423.out 0).trans rfl)
           (try have hczu71_1 : wc.cell? ⟨gb423, 1, none⟩ = some (.int .u8 ((rd_T43 l0 a1).f1)) := (blk_cell BK423.out 1).trans rfl)
           (try have hczu71_2 : wc.cell? ⟨gb423, 2, none⟩ = some (.int .u8 ((rd_T43 l0 a1).f2)) := (blk_cell BK423.out 2).trans rfl)
           (try have hczu71_3 : wc.cell? ⟨gb423, 3, none⟩ = some (.int .i16 ((rd_T43 l0 a1).f3)) := (blk_cell BK423.out 3).trans rfl)
           (try have hczu71_4 : wc.cell? ⟨gb423, 4, none⟩ = some (.int .i32 ((rd_T43 l0 a1).f4)) := (blk_cell BK423.out 4).trans rfl)
           have hfzu71_0 := blk_frozen BK423.out 0
           have hfzu71_1 := blk_frozen BK423.out 1
           have hfzu71_2 := blk_frozen BK423.out 2
           have hfzu71_3 := blk_frozen BK423.out 3
           have hfzu71_4 := blk_frozen BK423.out 4
           have n0_ := Aside0.mk (blk_drew BK421.out)
           have n1_ := Aside0.mk (blk_drew BK423.out)
           have n2_ := Aside0.mk (below_drew1 HB.out)
           clear BK421
           clear BK423
           clear HB
           have BK421 := n0_
           have BK423 := n1_
           have HB := n2_
           clear n0_ n1_ n2_
           have p431 : 0 ≤ ((ji51) : Int) := of_decide_eq_true (by first | (with_reducible assumption) | assumption)
           have q431 : (ji51) < (l0.length : Int) := of_decide_eq_true (by first | (with_reducible assumption) | assumption)
           obtain ⟨ad431, e431, hx431_0, hx431_1, hx431_2, hx431_3, hx431_4⟩ := at_T43 HR0.out (ji51) p431 q431
           have hw431_4 := hx431_4
           have hw431_3 := hx431_3
           have hw431_2 := hx431_2
           have hw431_1 := hx431_1
           have hw431_0 := hx431_0
           obtain rfl : ad422 = ad431 := (by injection e431)
           replace hx431_0 := (HB.out.cell (World.block_lt_of_cell? w _ hx431_0)).trans hx431_0
           replace hx431_1 := (HB.out.cell (World.block_lt_of_cell? w _ hx431_1)).trans hx431_1
           replace hx431_2 := (HB.out.cell (World.block_lt_of_cell? w _ hx431_2)).trans hx431_2
           replace hx431_3 := (HB.out.cell (World.block_lt_of_cell? w _ hx431_3)).trans hx431_3
           replace hx431_4 := (HB.out.cell (World.block_lt_of_cell? w _ hx431_4)).trans hx431_4
           replace p431 := eq_true p431
           replace q431 := eq_true q431
           refine start_ (n := 8) (S := fun w' => w'.cell? ⟨gb423, 0, none⟩ = some (.int .u8 ((rd_T43 l0 a1).f0)) ∧ w'.cell? ⟨gb423, 1, none⟩ = some (.int .u8 ((rd_T43 l0 a1).f1)) ∧ w'.cell? ⟨gb423, 2, none⟩ = some (.int .u8 ((rd_T43 l0 a1).f2)) ∧ w'.cell? ⟨gb423, 3, none⟩ = some (.int .i16 ((rd_T43 l0 a1).f3)) ∧ w'.cell? ⟨gb423, 4, none⟩ = some (.int .i32 ((rd_T43 l0 a1).f4)) ∧ w'.cell? (ad422.add (((ji51)).toNat * 5)) = some (.int .u8 ((rd_T43 l0 (ji51)).f0)) ∧ w'.cell? ⟨(ad422.add (((ji51)).toNat * 5)).block, (ad422.add (((ji51)).toNat * 5)).off + 1, none⟩ = some (.int .u8 ((rd_T43 l0 (ji51)).f1)) ∧ w'.cell? ⟨(ad422.add (((ji51)).toNat * 5)).block, (ad422.add (((ji51)).toNat * 5)).off + 2, none⟩ = some (.int .u8 ((rd_T43 l0 (ji51)).f2)) ∧ w'.cell? ⟨(ad422.add (((ji51)).toNat * 5)).block, (ad422.add (((ji51)).toNat * 5)).off + 3, none⟩ = some (.int .i16 ((rd_T43 l0 (ji51)).f3)) ∧ w'.cell? ⟨(ad422.add (((ji51)).toNat * 5)).block, (ad422.add (((ji51)).toNat * 5)).off + 4, none⟩ = some (.int .i32 ((rd_T43 l0 (ji51)).f4))) (ds := []) #[false, false, false, false, false, false, false, false] (by kernel_rfl) rfl rfl ⟨(blk_cell BK423.out 0).trans rfl, (blk_cell BK423.out 1).trans rfl, (blk_cell BK423.out 2).trans rfl, (blk_cell BK423.out 3).trans rfl, (blk_cell BK423.out 4).trans rfl, ((HB.out.cell (World.block_lt_of_cell? w _ hw431_0)).trans hw431_0), ((HB.out.cell (World.block_lt_of_cell? w _ hw431_1)).trans hw431_1), ((HB.out.cell (World.block_lt_of_cell? w _ hw431_2)).trans hw431_2), ((HB.out.cell (World.block_lt_of_cell? w _ hw431_3)).trans hw431_3), ((HB.out.cell (World.block_lt_of_cell? w _ hw431_4)).trans hw431_4)⟩ (fun hHeld => ?_); refine with_tabW fix_becomes.tab13 fix_becomes.bits13 (fun HT_ HW_ => ?_)
           generalize wc.drew = w72 at BK421 BK423 HB hx431_0 hx431_1 hx431_2 hx431_3 hx431_4 hHeld ⊢
           refine pure_ (i := 1) (N := some 99) (v := ?_) (a' := ?_) #[false, true, false, false, false, false, false, false] rfl rfl (any_of HT_.out (by kernel_rfl)) (fun _ _ _ h => h) (Or.inl ⟨by rfl, ?_⟩) ?_ ?_
           rotate_left
           ·
            intro w'
            go_simp
            with_reducible rfl
           rotate_left
           ·
            simp only [Act.put, List.setIfInBounds_toArray, List.set_cons_zero, List.set_cons_succ, i64_w, i32_w]
            rfl
           refine pure_ (i := 2) (N := some 100) (v := ?_) (a' := ?_) #[false, true, true, false, false, false, false, false] rfl rfl (any_of HT_.out (by kernel_rfl)) (fun _ _ _ h => h) (Or.inl ⟨by rfl, ?_⟩) ?_ ?_
           rotate_left
           ·
            intro w'
            go_simp
            with_reducible rfl
           rotate_left
           ·
            simp only [Act.put, List.setIfInBounds_toArray, List.set_cons_zero, List.set_cons_succ, i64_w, i32_w]
            rfl
           refine pure_ (i := 3) (N := some 101) (v := ?_) (a' := ?_) #[false, true, true, true, false, false, false, false] rfl rfl (any_of HT_.out (by kernel_rfl)) (fun _ _ _ h => h) (Or.inl ⟨by rfl, ?_⟩) ?_ ?_
           rotate_left
           ·
            intro w'
            go_simp
            with_reducible rfl
           rotate_left
           ·
            simp only [Act.put, List.setIfInBounds_toArray, List.set_cons_zero, List.set_cons_succ, i64_w, i32_w]
            rfl
           refine pure_ (i := 4) (N := some 102) (v := ?_) (a' := ?_) #[false, true, true, true, true, false, false, false] rfl rfl (any_of HT_.out (by kernel_rfl)) (fun _ _ _ h => h) (Or.inl ⟨by rfl, ?_⟩) ?_ ?_
           rotate_left
           ·
            intro w'
            go_simp
            with_reducible rfl
           rotate_left
           ·
            simp only [Act.put, List.setIfInBounds_toArray, List.set_cons_zero, List.set_cons_succ, i64_w, i32_w]
            rfl
           refine take_ (i := 0) (N := some 98) (v := ?_) (a' := ?_) #[true, true, true, true, true, false, false, false] rfl rfl (take_ofW HT_.out HW_.out (by kernel_rfl)) (fun _ _ _ h => h) (Or.inl ⟨by rfl, ?_⟩) hHeld ?_ ?_
           rotate_left
           ·
            rintro w' ⟨s0, s1, s2, s3, s4, s5, s6, s7, s8, s9⟩
            go_simp
            with_reducible rfl
           rotate_left
           ·
            simp only [Act.put, List.setIfInBounds_toArray, List.set_cons_zero, List.set_cons_succ, i64_w, i32_w]
            rfl
           refine take_ (i := 5) (N := some 103) (v := ?_) (a' := ?_) #[true, true, true, true, true, true, false, false] rfl rfl (take_ofW HT_.out HW_.out (by kernel_rfl)) (fun _ _ _ h => h) (Or.inl ⟨by rfl, ?_⟩) hHeld ?_ ?_
           rotate_left
           ·
            rintro w' ⟨s0, s1, s2, s3, s4, s5, s6, s7, s8, s9⟩
            go_simp
            with_reducible rfl
           rotate_left
           ·
            simp only [Act.put, List.setIfInBounds_toArray, List.set_cons_zero, List.set_cons_succ, i64_w, i32_w]
            rfl
           refine one_ (i := 6) (N := some 104) #[true, true, true, true, true, true, true, false] rfl rfl (one_of HT_.out (by kernel_rfl)) (by decide) (fun K hK => ?_)
           refine goes_ Try.func41 (by kernel_rfl) rfl #[.agg #[.int .u8 ((rd_T43 l0 a1).f0), .int .u8 ((rd_T43 l0 a1).f1), .int .u8 ((rd_T43 l0 a1).f2), .int .i16 ((rd_T43 l0 a1).f3), .int .i32 ((rd_T43 l0 a1).f4)], .agg #[.int .u8 ((rd_T43 l0 (ji51)).f0), .int .u8 ((rd_T43 l0 (ji51)).f1), .int .u8 ((rd_T43 l0 (ji51)).f2), .int .i16 ((rd_T43 l0 (ji51)).f3), .int .i32 ((rd_T43 l0 (ji51)).f4)]] (by rfl) rfl rfl (by (try simp only [List.map_toArray, List.map_cons, List.map_nil]); first | done | (simp only [hji51]; rfl) | rfl | (simp only [List.length_drop, List.length_take]; rfl)) ?_
           with_reducible refine (insn_Long.calls ((rd_T43 l0 a1).f0) ((rd_T43 l0 a1).f1) ((rd_T43 l0 a1).f2) ((rd_T43 l0 a1).f3) ((rd_T43 l0 a1).f4) ((rd_T43 l0 (ji51)).f0) ((rd_T43 l0 (ji51)).f1) ((rd_T43 l0 (ji51)).f2) ((rd_T43 l0 (ji51)).f3) ((rd_T43 l0 (ji51)).f4) t432 _ A54.out).mono ?_
           rintro e w73 ⟨rfl, hb⟩
           refine ⟨_, rfl, ?_⟩
           have n0_ := Aside0.mk (blk_below (g := gb421) (o := .cells #[.bool a2_0, .bool false, .int .i64 a2_2] 34 (0, 0)) (by (with_reducible repeat (first | refine blk_drewN ?_ _ | refine blk_drew ?_ | refine blk_alloc ?_ _)); exact BK421.out) hb)
           have n1_ := Aside0.mk (blk_below (g := gb423) (o := .cells #[.int .u8 ((rd_T43 l0 a1).f0), .int .u8 ((rd_T43 l0 a1).f1), .int .u8 ((rd_T43 l0 a1).f2), .int .i16 ((rd_T43 l0 a1).f3), .int .i32 ((rd_T43 l0 a1).f4)] 43 (0, 0)) (by (with_reducible repeat (first | refine blk_drewN ?_ _ | refine blk_drew ?_ | refine blk_alloc ?_ _)); exact BK423.out) hb)
           have n2_ := Aside0.mk (below_step (by repeat (first | (with_reducible first | exact HB.out | apply below_alloc | apply pw_below_drewN | apply below_drew1 | refine below_set ?_ GE421.out | refine below_set ?_ GE423.out) | exact HB.out)) hb)
           clear BK421
           clear BK423
           clear HB
           have BK421 := n0_
           have BK423 := n1_
           have HB := n2_
           clear n0_ n1_ n2_
           (try clear hb)
           (try clear hb2)
           (try clear hk)
           (try clear hi)
           refine hK.out _ _ ⟨(blk_cell BK423.out 0).trans rfl, (blk_cell BK423.out 1).trans rfl, (blk_cell BK423.out 2).trans rfl, (blk_cell BK423.out 3).trans rfl, (blk_cell BK423.out 4).trans rfl, ((HB.out.cell (World.block_lt_of_cell? w _ hw431_0)).trans hw431_0), ((HB.out.cell (World.block_lt_of_cell? w _ hw431_1)).trans hw431_1), ((HB.out.cell (World.block_lt_of_cell? w _ hw431_2)).trans hw431_2), ((HB.out.cell (World.block_lt_of_cell? w _ hw431_3)).trans hw431_3), ((HB.out.cell (World.block_lt_of_cell? w _ hw431_4)).trans hw431_4)⟩ (fun hHeld => ?_)
           clear hK K
           refine norm_ (a' := ?_) ?_ ?_
           rotate_left
           ·
            show Act.put _ (some 104) _ = _
            simp only [Act.put, List.setIfInBounds_toArray, List.set_cons_zero, List.set_cons_succ, i64_w, i32_w]
            rfl
           refine pure_ (i := 7) (N := some 14) (v := ?_) (a' := ?_) #[true, true, true, true, true, true, true, true] rfl rfl (any_of HT_.out (by kernel_rfl)) (fun _ _ _ h => h) (Or.inl ⟨by rfl, ?_⟩) ?_ ?_
           rotate_left
           ·
            intro w'
            go_simp
            with_reducible rfl
           rotate_left
           ·
            simp only [Act.put, List.setIfInBounds_toArray, List.set_cons_zero, List.set_cons_succ, i64_w, i32_w]
            rfl
           refine done_ (done_of HT_.out (by kernel_rfl)) ?_
           have hcz74_0 : w73.cell? ⟨gb423, 0, none⟩ = some (.int .u8 ((rd_T43 l0 a1).f0)) := (blk_cell BK423.out 0).trans rfl
           have hcz74_1 : w73.cell? ⟨gb423, 1, none⟩ = some (.int .u8 ((rd_T43 l0 a1).f1)) := (blk_cell BK423.out 1).trans rfl
           have hcz74_2 : w73.cell? ⟨gb423, 2, none⟩ = some (.int .u8 ((rd_T43 l0 a1).f2)) := (blk_cell BK423.out 2).trans rfl
           have hcz74_3 : w73.cell? ⟨gb423, 3, none⟩ = some (.int .i16 ((rd_T43 l0 a1).f3)) := (blk_cell BK423.out 3).trans rfl
           have hcz74_4 : w73.cell? ⟨gb423, 4, none⟩ = some (.int .i32 ((rd_T43 l0 a1).f4)) := (blk_cell BK423.out 4).trans rfl
           have hfz74_0 := blk_frozen BK423.out 0
           have hfz74_1 := blk_frozen BK423.out 1
           have hfz74_2 := blk_frozen BK423.out 2
           have hfz74_3 := blk_frozen BK423.out 3
           have hfz74_4 := blk_frozen BK423.out 4
           try go_wp2_with (first | ((with_reducible refine gate_callee (f := 42) rfl ?_); refine goesL_ (some 113) rfl rfl Try.func42 (by kernel_rfl) rfl #[.int .u8 ((rd_T43 l0 a1).f1), .int .u8 0, .int .u64 t432] rfl (by (try simp only [List.map_toArray, List.map_cons, List.map_nil]); first | done | rfl | (simp only [List.length_drop, List.length_take]; rfl)) ?_; (with_reducible refine (insn_Split.calls ((rd_T43 l0 a1).f1) 0 t432 t436 _ A66.out).mono ?_); rintro e w75 ⟨v437, rfl, ho0, hb⟩; refine ⟨_, rfl, ?_⟩; have n0_ := Aside0.mk (Kd.R_lower (Kd.R_newB ho0 (g := gb423) (o := .cells #[.int .u8 ((rd_T43 l0 a1).f0), .int .u8 ((rd_T43 l0 a1).f1), .int .u8 ((rd_T43 l0 a1).f2), .int .i16 ((rd_T43 l0 a1).f3), .int .i32 ((rd_T43 l0 a1).f4)] 43 (0, 0)) (by (with_reducible repeat (first | refine blk_drewN ?_ _ | refine blk_drew ?_ | refine blk_alloc ?_ _)); exact BK423.out)) (below_size (by repeat (first | (with_reducible first | exact HB.out | apply below_alloc | apply pw_below_drewN | apply below_drew1 | refine below_set ?_ GE421.out | refine below_set ?_ GE423.out) | exact HB.out)))); have n1_ := Aside0.mk (blk_below (g := gb421) (o := .cells #[.bool a2_0, .bool false, .int .i64 a2_2] 34 (0, 0)) (by (with_reducible repeat (first | refine blk_drewN ?_ _ | refine blk_drew ?_ | refine blk_alloc ?_ _)); exact BK421.out) hb); have n2_ := Aside0.mk (blk_below (g := gb423) (o := .cells #[.int .u8 ((rd_T43 l0 a1).f0), .int .u8 ((rd_T43 l0 a1).f1), .int .u8 ((rd_T43 l0 a1).f2), .int .i16 ((rd_T43 l0 a1).f3), .int .i32 ((rd_T43 l0 a1).f4)] 43 (0, 0)) (by (with_reducible repeat (first | refine blk_drewN ?_ _ | refine blk_drew ?_ | refine blk_alloc ?_ _)); exact BK423.out) hb); have n3_ := Aside0.mk (below_step (by repeat (first | (with_reducible first | exact HB.out | apply below_alloc | apply pw_below_drewN | apply below_drew1 | refine below_set ?_ GE421.out | refine below_set ?_ GE423.out) | exact HB.out)) hb); clear BK421; clear BK423; clear HB; have HO438 := n0_; have BK421 := n1_; have BK423 := n2_; have HB := n3_; clear n0_ n1_ n2_ n3_; (try clear hb); (try clear hb2); (try clear hk); (try clear hi); (try clear ho0)))
           go_ret2
           exact ⟨_, by first | rfl | (simp [errW_none, errW_some] <;> rfl) | (simp only [← hji51]; first | rfl | (simp [errW_none, errW_some] <;> rfl)) | (simp [*, errW_none, errW_some] <;> rfl), by (with_reducible repeat (first | apply Kd.R_alloc | apply Kd.R_drewN | apply Kd.R_drew)); exact Kd.R_mono HO438.out (fun _ hk => trivial), by repeat (first | (with_reducible first | exact HB.out | apply below_alloc | apply pw_below_drewN | apply below_drew1 | refine below_set ?_ GE421.out | refine below_set ?_ GE423.out) | exact HB.out)⟩
         ·
          rw [if_neg c53] at H
          exact absurd H (by simp)
        ·
         rw [if_neg c52] at H
         exact absurd H (by simp)
       ·
        replace c50 := Bool.eq_false_iff.mpr c50
        subst c50
        have H1 : (some ((([(⟨((rd_T43 l0 a1).f0), ((rd_T43 l0 a1).f1), ((rd_T43 l0 a1).f2), ((rd_T43 l0 a1).f3), ((rd_T43 l0 a1).f4)⟩ : S43)] : List (S43))), 0)) = some (r1, r2) := by rw [if_neg (show ¬ (false = true) by decide)] at H; exact H
        clear H
        have H := H1
        clear H1
        obtain ⟨y439, hy439⟩ : ∃ y_ : List (S43), y_ = (([(⟨((rd_T43 l0 a1).f0), ((rd_T43 l0 a1).f1), ((rd_T43 l0 a1).f2), ((rd_T43 l0 a1).f3), ((rd_T43 l0 a1).f4)⟩ : S43)] : List (S43))) := ⟨_, rfl⟩
        replace H : (some (y439, 0)) = some (r1, r2) := by first | (rw [hy439]; with_reducible exact H) | (have H2_ := (Option.bind_some _ _).symm.trans H; rw [hy439]; with_reducible exact H2_) | (have H2_ := (Option.bind_some _ _).symm.trans H; with_reducible exact H2_) | with_reducible exact H | (rw [hy439]; exact H) | exact H
        have Ny439 := Aside0.mk hy439
        clear hy439
        simp only [Option.some.injEq, Prod.mk.injEq] at H
        obtain ⟨rfl, rfl⟩ := H
        have hnb76 := NB421_423.out
        have hnc76 := NB423_421.out
        have hcz77_0 : wc.cell? ⟨gb421, 0, none⟩ = some (.bool a2_0) := (blk_cell BK421.out 0).trans rfl
        have hcz77_1 : wc.cell? ⟨gb421, 1, none⟩ = some (.bool false) := (blk_cell BK421.out 1).trans rfl
        have hcz77_2 : wc.cell? ⟨gb421, 2, none⟩ = some (.int .i64 a2_2) := (blk_cell BK421.out 2).trans rfl
        have hfz77_0 := blk_frozen BK421.out 0
        have hfz77_1 := blk_frozen BK421.out 1
        have hfz77_2 := blk_frozen BK421.out 2
        have hcz78_0 : wc.cell? ⟨gb423, 0, none⟩ = some (.int .u8 ((rd_T43 l0 a1).f0)) := (blk_cell BK423.out 0).trans rfl
        have hcz78_1 : wc.cell? ⟨gb423, 1, none⟩ = some (.int .u8 ((rd_T43 l0 a1).f1)) := (blk_cell BK423.out 1).trans rfl
        have hcz78_2 : wc.cell? ⟨gb423, 2, none⟩ = some (.int .u8 ((rd_T43 l0 a1).f2)) := (blk_cell BK423.out 2).trans rfl
        have hcz78_3 : wc.cell? ⟨gb423, 3, none⟩ = some (.int .i16 ((rd_T43 l0 a1).f3)) := (blk_cell BK423.out 3).trans rfl
        have hcz78_4 : wc.cell? ⟨gb423, 4, none⟩ = some (.int .i32 ((rd_T43 l0 a1).f4)) := (blk_cell BK423.out 4).trans rfl
        have hfz78_0 := blk_frozen BK423.out 0
        have hfz78_1 := blk_frozen BK423.out 1
        have hfz78_2 := blk_frozen BK423.out 2
        have hfz78_3 := blk_frozen BK423.out 3
        have hfz78_4 := blk_frozen BK423.out 4
        go_wp2_with (first | ((with_reducible refine gate_callee (f := 18) rfl ?_); refine goesL_ (some 97) rfl rfl Try.func18 (by kernel_rfl) rfl #[.int .u8 ((rd_T43 l0 a1).f0)] rfl (by (try simp only [List.map_toArray, List.map_cons, List.map_nil]); first | done | rfl | (simp only [List.length_drop, List.length_take]; rfl)) ?_; (with_reducible refine (insn_Wide.calls ((rd_T43 l0 a1).f0) false _ A49.out).mono ?_); rintro e w' ⟨rfl, ⟨nd, rfl⟩⟩; refine ⟨_, rfl, ?_⟩) | ((with_reducible refine gate_dst (N := 115) rfl ?_); (try (refine gate_guard (by rfl) ?_; dsimp only)); refine Kd.R_lit k43 _ 43 ?hg (N := 115) ?hd (xs := ([(⟨((rd_T43 l0 a1).f0), ((rd_T43 l0 a1).f1), ((rd_T43 l0 a1).f2), ((rd_T43 l0 a1).f3), ((rd_T43 l0 a1).f4)⟩ : S43)] : List (S43))) (inner := [.int .u8 ((rd_T43 l0 a1).f0), .int .u8 ((rd_T43 l0 a1).f1), .int .u8 ((rd_T43 l0 a1).f2), .int .i16 ((rd_T43 l0 a1).f3), .int .i32 ((rd_T43 l0 a1).f4)]) (ok := fun _ => True) (okp := fun _ => True) ?hr ?hp (fun _ hk => hk) trivial (Below.refl _ _) (Nat.le_refl _) (by simp) ?_; (case hd => rfl); (case hg => rfl); (case hr => first | (go_simp; done) | (go_simp; rfl)); (case hp => exact (Reps.c5 (show Kd.M k43 _ _ _ (⟨((rd_T43 l0 a1).f0), ((rd_T43 l0 a1).f1), ((rd_T43 l0 a1).f2), ((rd_T43 l0 a1).f3), ((rd_T43 l0 a1).f4)⟩ : S43) [.int .u8 ((rd_T43 l0 a1).f0), .int .u8 ((rd_T43 l0 a1).f1), .int .u8 ((rd_T43 l0 a1).f2), .int .i16 ((rd_T43 l0 a1).f3), .int .i32 ((rd_T43 l0 a1).f4)] from (k43_mkM _ _ _ (⟨((rd_T43 l0 a1).f0), ((rd_T43 l0 a1).f1), ((rd_T43 l0 a1).f2), ((rd_T43 l0 a1).f3), ((rd_T43 l0 a1).f4)⟩ : S43) )) (Reps.none _ _))); intro v440 w79 ho80 hb hg_ hnew_; clear hg_ hnew_; (first | rw [← Ny439.out] at ho80 | (simp only [Int.reduceToNat] at ho80; rw [← Ny439.out] at ho80)); have n0_ := Aside0.mk (Kd.R_lower (Kd.R_newB ho80 (g := gb423) (o := .cells #[.int .u8 ((rd_T43 l0 a1).f0), .int .u8 ((rd_T43 l0 a1).f1), .int .u8 ((rd_T43 l0 a1).f2), .int .i16 ((rd_T43 l0 a1).f3), .int .i32 ((rd_T43 l0 a1).f4)] 43 (0, 0)) (by (with_reducible repeat (first | refine blk_drewN ?_ _ | refine blk_drew ?_ | refine blk_alloc ?_ _)); exact BK423.out)) (below_size (by repeat (first | (with_reducible first | exact HB.out | apply below_alloc | apply pw_below_drewN | apply below_drew1 | refine below_set ?_ GE421.out | refine below_set ?_ GE423.out) | exact HB.out)))); have n1_ := Aside0.mk (blk_below (g := gb421) (o := .cells #[.bool a2_0, .bool false, .int .i64 a2_2] 34 (0, 0)) (by (with_reducible repeat (first | refine blk_drewN ?_ _ | refine blk_drew ?_ | refine blk_alloc ?_ _)); exact BK421.out) hb); have n2_ := Aside0.mk (blk_below (g := gb423) (o := .cells #[.int .u8 ((rd_T43 l0 a1).f0), .int .u8 ((rd_T43 l0 a1).f1), .int .u8 ((rd_T43 l0 a1).f2), .int .i16 ((rd_T43 l0 a1).f3), .int .i32 ((rd_T43 l0 a1).f4)] 43 (0, 0)) (by (with_reducible repeat (first | refine blk_drewN ?_ _ | refine blk_drew ?_ | refine blk_alloc ?_ _)); exact BK423.out) hb); have n3_ := Aside0.mk (below_step (by repeat (first | (with_reducible first | exact HB.out | apply below_alloc | apply pw_below_drewN | apply below_drew1 | refine below_set ?_ GE421.out | refine below_set ?_ GE423.out) | exact HB.out)) hb); clear BK421; clear BK423; clear HB; have HO441 := n0_; have BK421 := n1_; have BK423 := n2_; have HB := n3_; clear n0_ n1_ n2_ n3_; clear hb ho80))
        go_ret2
        exact ⟨_, by first | rfl | (simp [errW_none, errW_some] <;> rfl) | (simp [*, errW_none, errW_some] <;> rfl), by (with_reducible repeat (first | apply Kd.R_alloc | apply Kd.R_drewN | apply Kd.R_drew)); exact Kd.R_mono HO441.out (fun _ hk => trivial), by repeat (first | (with_reducible first | exact HB.out | apply below_alloc | apply pw_below_drewN | apply below_drew1 | refine below_set ?_ GE421.out | refine below_set ?_ GE423.out) | exact HB.out)⟩
      ·
       rw [if_neg c48] at H
       have c48b0 : (a2_2 == 0) = false := beq_eq_false_iff_ne.mpr c48
       have c48b1 : (a2_2 != 0) = true := bne_iff_ne.mpr c48
       by_cases c81 : x11_6 = true
       ·
        subst c81
        have H1 : (if a2_2 < 0 then (some (([] : List (S43)), 2)) else (if a2_2 > (l3.length : Int) then (some (([] : List (S43)), 2)) else (if 0 ≤ (wrap64 (a2_2 - 1)) then (if (wrap64 (a2_2 - 1)) < (l3.length : Int) then (if ((rd_T80 l3 (wrap64 (a2_2 - 1))).f0) = 0 then ((fix_lookup.f (wrap64 (a2_2 - 1)) ((rd_T80 l3 (wrap64 (a2_2 - 1))).f0) ((rd_T80 l3 (wrap64 (a2_2 - 1))).f1) ((rd_T80 l3 (wrap64 (a2_2 - 1))).f2) ((rd_T80 l3 (wrap64 (a2_2 - 1))).f3)).bind fun t444 => (some (t444, 0))) else (some (([] : List (S43)), 2))) else (none)) else (none)))) = some (r1, r2) := by rw [if_pos rfl] at H; exact H
        clear H
        have H := H1
        clear H1
        by_cases c82 : a2_2 < 0
        ·
         rw [if_pos c82] at H
         have c82b0 : decide (a2_2 < 0) = true := decide_eq_true c82
         clear c82
         simp only [Option.some.injEq, Prod.mk.injEq] at H
         obtain ⟨rfl, rfl⟩ := H
         have hnb83 := NB421_423.out
         have hnc83 := NB423_421.out
         have hcz84_0 : wc.cell? ⟨gb421, 0, none⟩ = some (.bool a2_0) := (blk_cell BK421.out 0).trans rfl
         have hcz84_1 : wc.cell? ⟨gb421, 1, none⟩ = some (.bool false) := (blk_cell BK421.out 1).trans rfl
         have hcz84_2 : wc.cell? ⟨gb421, 2, none⟩ = some (.int .i64 a2_2) := (blk_cell BK421.out 2).trans rfl
         have hfz84_0 := blk_frozen BK421.out 0
         have hfz84_1 := blk_frozen BK421.out 1
         have hfz84_2 := blk_frozen BK421.out 2
         go_wp2
         go_ret2
         exact ⟨_, by first | rfl | (simp [errW_none, errW_some] <;> rfl) | (simp [*, errW_none, errW_some] <;> rfl), by first | exact Kd.R_nil _ _ _ _ _ | exact Kd.N_nil _ _ _ _ _ | exact Kd.V_nil _ _ _ _ _ | exact Kd.Q_nil _ _ _ _ _ | exact Kd.S_nil _ _ _ _ _, by repeat (first | (with_reducible first | exact HB.out | apply below_alloc | apply pw_below_drewN | apply below_drew1 | refine below_set ?_ GE421.out | refine below_set ?_ GE423.out) | exact HB.out)⟩
        ·
         rw [if_neg c82] at H
         have c82b0 : decide (a2_2 < 0) = false := decide_eq_false c82
         clear c82
         by_cases c85 : a2_2 > (l3.length : Int)
         ·
          rw [if_pos c85] at H
          have c85b0 : decide ((l3.length : Int) < a2_2) = true := decide_eq_true c85
          clear c85
          simp only [Option.some.injEq, Prod.mk.injEq] at H
          obtain ⟨rfl, rfl⟩ := H
          have hnb86 := NB421_423.out
          have hnc86 := NB423_421.out
          have hcz87_0 : wc.cell? ⟨gb421, 0, none⟩ = some (.bool a2_0) := (blk_cell BK421.out 0).trans rfl
          have hcz87_1 : wc.cell? ⟨gb421, 1, none⟩ = some (.bool false) := (blk_cell BK421.out 1).trans rfl
          have hcz87_2 : wc.cell? ⟨gb421, 2, none⟩ = some (.int .i64 a2_2) := (blk_cell BK421.out 2).trans rfl
          have hfz87_0 := blk_frozen BK421.out 0
          have hfz87_1 := blk_frozen BK421.out 1
          have hfz87_2 := blk_frozen BK421.out 2
          go_wp2
          go_ret2
          exact ⟨_, by first | rfl | (simp [errW_none, errW_some] <;> rfl) | (simp [*, errW_none, errW_some] <;> rfl), by first | exact Kd.R_nil _ _ _ _ _ | exact Kd.N_nil _ _ _ _ _ | exact Kd.V_nil _ _ _ _ _ | exact Kd.Q_nil _ _ _ _ _ | exact Kd.S_nil _ _ _ _ _, by repeat (first | (with_reducible first | exact HB.out | apply below_alloc | apply pw_below_drewN | apply below_drew1 | refine below_set ?_ GE421.out | refine below_set ?_ GE423.out) | exact HB.out)⟩
         ·
          rw [if_neg c85] at H
          have c85b0 : decide ((l3.length : Int) < a2_2) = false := decide_eq_false c85
          clear c85
          obtain ⟨ji88, hji88⟩ : ∃ j_ : Int, (wrap64 (a2_2 - 1)) = j_ := ⟨_, rfl⟩
          replace H : (if 0 ≤ (ji88) then (if (ji88) < (l3.length : Int) then (if ((rd_T80 l3 (ji88)).f0) = 0 then ((fix_lookup.f (ji88) ((rd_T80 l3 (ji88)).f0) ((rd_T80 l3 (ji88)).f1) ((rd_T80 l3 (ji88)).f2) ((rd_T80 l3 (ji88)).f3)).bind fun t444 => (some (t444, 0))) else (some (([] : List (S43)), 2))) else (none)) else (none)) = some (r1, r2) := by first | (rw [hji88] at H; exact H) | (simp only [hji88] at H ⊢; exact H)
          have hji88w : (IntKind.i64.wrap (a2_2 - 1)) = ji88 := (i64_w _).trans hji88
          by_cases c89 : 0 ≤ (ji88)
          ·
           rw [if_pos c89] at H
           have c89b0 : decide (0 ≤ (ji88)) = true := decide_eq_true c89
           clear c89
           by_cases c90 : (ji88) < (l3.length : Int)
           ·
            rw [if_pos c90] at H
            have c90b0 : decide ((ji88) < (l3.length : Int)) = true := decide_eq_true c90
            clear c90
            by_cases c91 : ((rd_T80 l3 (ji88)).f0) = 0
            ·
             rw [if_pos c91] at H
             have c91b0 : (((rd_T80 l3 (ji88)).f0) == 0) = true := beq_iff_eq.mpr c91
             have c91b1 : (((rd_T80 l3 (ji88)).f0) != 0) = false := bne_eq_false_iff_eq.mpr c91
             clear c91
             replace H := Option.bind_eq_some_iff.mp H
             obtain ⟨t444, A920, H⟩ := H
             replace H : (some (t444, 0)) = some (r1, r2) := H
             have A92 := Aside0.mk A920
             clear A920
             simp only [Option.some.injEq, Prod.mk.injEq] at H
             obtain ⟨rfl, rfl⟩ := H
             have hnb93 := NB421_423.out
             have hnc93 := NB423_421.out
             have hcz94_0 : wc.cell? ⟨gb421, 0, none⟩ = some (.bool a2_0) := (blk_cell BK421.out 0).trans rfl
             have hcz94_1 : wc.cell? ⟨gb421, 1, none⟩ = some (.bool false) := (blk_cell BK421.out 1).trans rfl
             have hcz94_2 : wc.cell? ⟨gb421, 2, none⟩ = some (.int .i64 a2_2) := (blk_cell BK421.out 2).trans rfl
             have hfz94_0 := blk_frozen BK421.out 0
             have hfz94_1 := blk_frozen BK421.out 1
             have hfz94_2 := blk_frozen BK421.out 2
             have p442 : 0 ≤ ((ji88) : Int) := of_decide_eq_true (by first | (with_reducible assumption) | assumption)
             have q442 : (ji88) < (l3.length : Int) := of_decide_eq_true (by first | (with_reducible assumption) | assumption)
             obtain ⟨ad442, e442, hx442_0, hx442_1, hx442_2, hx442_3⟩ := at_T80 HR3.out (ji88) p442 q442
             cases e442
             replace hx442_0 := (HB.out.cell (World.block_lt_of_cell? w _ hx442_0)).trans hx442_0
             replace hx442_1 := (HB.out.cell (World.block_lt_of_cell? w _ hx442_1)).trans hx442_1
             replace hx442_2 := (HB.out.cell (World.block_lt_of_cell? w _ hx442_2)).trans hx442_2
             replace hx442_3 := (HB.out.cell (World.block_lt_of_cell? w _ hx442_3)).trans hx442_3
             replace p442 := eq_true p442
             replace q442 := eq_true q442
             try go_wp2
             have n0_ := Aside0.mk (blk_drew BK421.out)
             have n1_ := Aside0.mk (blk_drew BK423.out)
             have n2_ := Aside0.mk (below_drew1 HB.out)
             clear BK421
             clear BK423
             clear HB
             have BK421 := n0_
             have BK423 := n1_
             have HB := n2_
             clear n0_ n1_ n2_
             have p443 : 0 ≤ ((ji88) : Int) := of_decide_eq_true (by first | (with_reducible assumption) | assumption)
             have q443 : (ji88) < (l3.length : Int) := of_decide_eq_true (by first | (with_reducible assumption) | assumption)
             obtain ⟨ad443, e443, hx443_0, hx443_1, hx443_2, hx443_3⟩ := at_T80 HR3.out (ji88) p443 q443
             have hw443_3 := hx443_3
             have hw443_2 := hx443_2
             have hw443_1 := hx443_1
             have hw443_0 := hx443_0
             obtain rfl : ad442 = ad443 := (by injection e443)
             replace hx443_0 := (HB.out.cell (World.block_lt_of_cell? w _ hx443_0)).trans hx443_0
             replace hx443_1 := (HB.out.cell (World.block_lt_of_cell? w _ hx443_1)).trans hx443_1
             replace hx443_2 := (HB.out.cell (World.block_lt_of_cell? w _ hx443_2)).trans hx443_2
             replace hx443_3 := (HB.out.cell (World.block_lt_of_cell? w _ hx443_3)).trans hx443_3
             replace p443 := eq_true p443
             replace q443 := eq_true q443
             refine start_ (n := 12) (S := fun w' => w'.cell? ⟨gb421, 0, none⟩ = some (.bool a2_0) ∧ w'.cell? ⟨gb421, 1, none⟩ = some (.bool false) ∧ w'.cell? ⟨gb421, 2, none⟩ = some (.int .i64 a2_2) ∧ w'.cell? (ad442.add (((ji88)).toNat * 4)) = some (.int .i64 ((rd_T80 l3 (ji88)).f0)) ∧ w'.cell? ⟨(ad442.add (((ji88)).toNat * 4)).block, (ad442.add (((ji88)).toNat * 4)).off + 1, none⟩ = some (.int .i64 ((rd_T80 l3 (ji88)).f1)) ∧ w'.cell? ⟨(ad442.add (((ji88)).toNat * 4)).block, (ad442.add (((ji88)).toNat * 4)).off + 2, none⟩ = some (.int .i64 ((rd_T80 l3 (ji88)).f2)) ∧ w'.cell? ⟨(ad442.add (((ji88)).toNat * 4)).block, (ad442.add (((ji88)).toNat * 4)).off + 3, none⟩ = some (.int .i64 ((rd_T80 l3 (ji88)).f3))) (ds := []) #[false, false, false, false, false, false, false, false, false, false, false, false] (by kernel_rfl) rfl rfl ⟨(blk_cell BK421.out 0).trans rfl, (blk_cell BK421.out 1).trans rfl, (blk_cell BK421.out 2).trans rfl, ((HB.out.cell (World.block_lt_of_cell? w _ hw443_0)).trans hw443_0), ((HB.out.cell (World.block_lt_of_cell? w _ hw443_1)).trans hw443_1), ((HB.out.cell (World.block_lt_of_cell? w _ hw443_2)).trans hw443_2), ((HB.out.cell (World.block_lt_of_cell? w _ hw443_3)).trans hw443_3)⟩ (fun hHeld => ?_); refine with_tabW fix_becomes.tab11 fix_becomes.bits11 (fun HT_ HW_ => ?_)
             generalize wc.drew = w95 at BK421 BK423 HB hx443_0 hx443_1 hx443_2 hx443_3 hHeld ⊢
             refine pure_ (i := 0) (N := some 84) (v := ?_) (a' := ?_) #[true, false, false, false, false, false, false, false, false, false, false, false] rfl rfl (any_of HT_.out (by kernel_rfl)) (fun _ _ _ h => h) (Or.inl ⟨by rfl, ?_⟩) ?_ ?_
             rotate_left
             ·
              intro w'
              go_simp
              with_reducible rfl
             rotate_left
             ·
              simp only [Act.put, List.setIfInBounds_toArray, List.set_cons_zero, List.set_cons_succ, i64_w, i32_w]
              rfl
             refine pure_ (i := 3) (N := some 87) (v := ?_) (a' := ?_) #[true, false, false, true, false, false, false, false, false, false, false, false] rfl rfl (any_of HT_.out (by kernel_rfl)) (fun _ _ _ h => h) (Or.inl ⟨by rfl, ?_⟩) ?_ ?_
             rotate_left
             ·
              intro w'
              go_simp
              with_reducible rfl
             rotate_left
             ·
              simp only [Act.put, List.setIfInBounds_toArray, List.set_cons_zero, List.set_cons_succ, i64_w, i32_w]
              rfl
             refine pure_ (i := 4) (N := some 88) (v := ?_) (a' := ?_) #[true, false, false, true, true, false, false, false, false, false, false, false] rfl rfl (any_of HT_.out (by kernel_rfl)) (fun _ _ _ h => h) (Or.inl ⟨by rfl, ?_⟩) ?_ ?_
             rotate_left
             ·
              intro w'
              go_simp
              with_reducible rfl
             rotate_left
             ·
              simp only [Act.put, List.setIfInBounds_toArray, List.set_cons_zero, List.set_cons_succ, i64_w, i32_w]
              rfl
             refine take_ (i := 1) (N := some 85) (v := ?_) (a' := ?_) #[true, true, false, true, true, false, false, false, false, false, false, false] rfl rfl (take_ofW HT_.out HW_.out (by kernel_rfl)) (fun _ _ _ h => h) (Or.inl ⟨by rfl, ?_⟩) hHeld ?_ ?_
             rotate_left
             ·
              rintro w' ⟨s0, s1, s2, s3, s4, s5, s6⟩
              go_simp
              with_reducible rfl
             rotate_left
             ·
              simp only [Act.put, List.setIfInBounds_toArray, List.set_cons_zero, List.set_cons_succ, i64_w, i32_w]
              rfl
             refine pure_ (i := 2) (N := some 86) (v := ?_) (a' := ?_) #[true, true, true, true, true, false, false, false, false, false, false, false] rfl rfl (any_of HT_.out (by kernel_rfl)) (fun _ _ _ h => h) (Or.inl ⟨by rfl, ?_⟩) ?_ ?_
             rotate_left
             ·
              intro w'
              go_simp
              with_reducible rfl
             rotate_left
             ·
              simp only [Act.put, List.setIfInBounds_toArray, List.set_cons_zero, List.set_cons_succ, i64_w, i32_w]
              rfl
             refine take_ (i := 5) (N := some 89) (v := ?_) (a' := ?_) #[true, true, true, true, true, true, false, false, false, false, false, false] rfl rfl (take_ofW HT_.out HW_.out (by kernel_rfl)) (fun _ _ _ h => h) (Or.inl ⟨by rfl, ?_⟩) hHeld ?_ ?_
             rotate_left
             ·
              rintro w' ⟨s0, s1, s2, s3, s4, s5, s6⟩
              go_simp
              with_reducible rfl
             rotate_left
             ·
              simp only [Act.put, List.setIfInBounds_toArray, List.set_cons_zero, List.set_cons_succ, i64_w, i32_w]
              rfl
             refine pure_ (i := 6) (N := some 90) (v := ?_) (a' := ?_) #[true, true, true, true, true, true, true, false, false, false, false, false] rfl rfl (any_of HT_.out (by kernel_rfl)) (fun _ _ _ h => h) (Or.inl ⟨by rfl, ?_⟩) ?_ ?_
             rotate_left
             ·
              intro w'
              go_simp
              with_reducible rfl
             rotate_left
             ·
              simp only [Act.put, List.setIfInBounds_toArray, List.set_cons_zero, List.set_cons_succ, i64_w, i32_w]
              rfl
             refine pure_ (i := 7) (N := some 91) (v := ?_) (a' := ?_) #[true, true, true, true, true, true, true, true, false, false, false, false] rfl rfl (any_of HT_.out (by kernel_rfl)) (fun _ _ _ h => h) (Or.inl ⟨by rfl, ?_⟩) ?_ ?_
             rotate_left
             ·
              intro w'
              go_simp
              with_reducible rfl
             rotate_left
             ·
              simp only [Act.put, List.setIfInBounds_toArray, List.set_cons_zero, List.set_cons_succ, i64_w, i32_w]
              rfl
             refine take_ (i := 8) (N := some 92) (v := ?_) (a' := ?_) #[true, true, true, true, true, true, true, true, true, false, false, false] rfl rfl (take_ofW HT_.out HW_.out (by kernel_rfl)) (fun _ _ _ h => h) (Or.inl ⟨by rfl, ?_⟩) hHeld ?_ ?_
             rotate_left
             ·
              rintro w' ⟨s0, s1, s2, s3, s4, s5, s6⟩
              go_simp
              with_reducible rfl
             rotate_left
             ·
              simp only [Act.put, List.setIfInBounds_toArray, List.set_cons_zero, List.set_cons_succ, i64_w, i32_w]
              rfl
             refine one_ (i := 9) (N := some 93) #[true, true, true, true, true, true, true, true, true, true, false, false] rfl rfl (one_of HT_.out (by kernel_rfl)) (by decide) (fun K hK => ?_)
             refine goes_ Try.func40 (by kernel_rfl) rfl #[.int .i64 ji88, .agg #[.int .i64 ((rd_T80 l3 (ji88)).f0), .int .i64 ((rd_T80 l3 (ji88)).f1), .int .i64 ((rd_T80 l3 (ji88)).f2), .int .i64 ((rd_T80 l3 (ji88)).f3)]] (by rfl) rfl rfl (by (try simp only [List.map_toArray, List.map_cons, List.map_nil]); first | done | (simp only [hji88]; rfl) | rfl | (simp only [List.length_drop, List.length_take]; rfl)) ?_
             with_reducible refine (fix_lookup.calls ji88 ((rd_T80 l3 (ji88)).f0) ((rd_T80 l3 (ji88)).f1) ((rd_T80 l3 (ji88)).f2) ((rd_T80 l3 (ji88)).f3) t444 _ A92.out).mono ?_
             rintro e w96 ⟨v445, rfl, ho0, hb⟩
             refine ⟨_, rfl, ?_⟩
             have n0_ := Aside0.mk (Kd.R_lower (Kd.R_newB ho0 (g := gb423) (o := .cells #[.int .u8 ((rd_T43 l0 a1).f0), .int .u8 ((rd_T43 l0 a1).f1), .int .u8 ((rd_T43 l0 a1).f2), .int .i16 ((rd_T43 l0 a1).f3), .int .i32 ((rd_T43 l0 a1).f4)] 43 (0, 0)) (by (with_reducible repeat (first | refine blk_drewN ?_ _ | refine blk_drew ?_ | refine blk_alloc ?_ _)); exact BK423.out)) (below_size (by repeat (first | (with_reducible first | exact HB.out | apply below_alloc | apply pw_below_drewN | apply below_drew1 | refine below_set ?_ GE421.out | refine below_set ?_ GE423.out) | exact HB.out))))
             have n1_ := Aside0.mk (blk_below (g := gb421) (o := .cells #[.bool a2_0, .bool false, .int .i64 a2_2] 34 (0, 0)) (by (with_reducible repeat (first | refine blk_drewN ?_ _ | refine blk_drew ?_ | refine blk_alloc ?_ _)); exact BK421.out) hb)
             have n2_ := Aside0.mk (blk_below (g := gb423) (o := .cells #[.int .u8 ((rd_T43 l0 a1).f0), .int .u8 ((rd_T43 l0 a1).f1), .int .u8 ((rd_T43 l0 a1).f2), .int .i16 ((rd_T43 l0 a1).f3), .int .i32 ((rd_T43 l0 a1).f4)] 43 (0, 0)) (by (with_reducible repeat (first | refine blk_drewN ?_ _ | refine blk_drew ?_ | refine blk_alloc ?_ _)); exact BK423.out) hb)
             have n3_ := Aside0.mk (below_step (by repeat (first | (with_reducible first | exact HB.out | apply below_alloc | apply pw_below_drewN | apply below_drew1 | refine below_set ?_ GE421.out | refine below_set ?_ GE423.out) | exact HB.out)) hb)
             clear BK421
             clear BK423
             clear HB
             have HO446 := n0_
             have BK421 := n1_
             have BK423 := n2_
             have HB := n3_
             clear n0_ n1_ n2_ n3_
             (try clear hb)
             (try clear hb2)
             (try clear hk)
             (try clear hi)
             (try clear ho0)
             refine hK.out _ _ ⟨(blk_cell BK421.out 0).trans rfl, (blk_cell BK421.out 1).trans rfl, (blk_cell BK421.out 2).trans rfl, ((HB.out.cell (World.block_lt_of_cell? w _ hw443_0)).trans hw443_0), ((HB.out.cell (World.block_lt_of_cell? w _ hw443_1)).trans hw443_1), ((HB.out.cell (World.block_lt_of_cell? w _ hw443_2)).trans hw443_2), ((HB.out.cell (World.block_lt_of_cell? w _ hw443_3)).trans hw443_3)⟩ (fun hHeld => ?_)
             clear hK K
             refine norm_ (a' := ?_) ?_ ?_
             rotate_left
             ·
              show Act.put _ (some 93) _ = _
              simp only [Act.put, List.setIfInBounds_toArray, List.set_cons_zero, List.set_cons_succ, i64_w, i32_w]
              rfl
             refine pure_ (i := 10) (N := some 8) (v := ?_) (a' := ?_) #[true, true, true, true, true, true, true, true, true, true, true, false] rfl rfl (any_of HT_.out (by kernel_rfl)) (fun _ _ _ h => h) (Or.inl ⟨by rfl, ?_⟩) ?_ ?_
             rotate_left
             ·
              intro w'
              go_simp
              with_reducible rfl
             rotate_left
             ·
              simp only [Act.put, List.setIfInBounds_toArray, List.set_cons_zero, List.set_cons_succ, i64_w, i32_w]
              rfl
             refine pure_ (i := 11) (N := some 9) (v := ?_) (a' := ?_) #[true, true, true, true, true, true, true, true, true, true, true, true] rfl rfl (any_of HT_.out (by kernel_rfl)) (fun _ _ _ h => h) (Or.inl ⟨by rfl, ?_⟩) ?_ ?_
             rotate_left
             ·
              intro w'
              go_simp
              with_reducible rfl
             rotate_left
             ·
              simp only [Act.put, List.setIfInBounds_toArray, List.set_cons_zero, List.set_cons_succ, i64_w, i32_w]
              rfl
             refine done_ (done_of HT_.out (by kernel_rfl)) ?_
             try go_wp2
             go_ret2
             exact ⟨_, by first | rfl | (simp [errW_none, errW_some] <;> rfl) | (simp only [← hji88]; first | rfl | (simp [errW_none, errW_some] <;> rfl)) | (simp [*, errW_none, errW_some] <;> rfl), by (with_reducible repeat (first | apply Kd.R_alloc | apply Kd.R_drewN | apply Kd.R_drew)); exact Kd.R_mono HO446.out (fun _ hk => trivial), by repeat (first | (with_reducible first | exact HB.out | apply below_alloc | apply pw_below_drewN | apply below_drew1 | refine below_set ?_ GE421.out | refine below_set ?_ GE423.out) | exact HB.out)⟩
            ·
             rw [if_neg c91] at H
             have c91b0 : (((rd_T80 l3 (ji88)).f0) == 0) = false := beq_eq_false_iff_ne.mpr c91
             have c91b1 : (((rd_T80 l3 (ji88)).f0) != 0) = true := bne_iff_ne.mpr c91
             simp only [Option.some.injEq, Prod.mk.injEq] at H
             obtain ⟨rfl, rfl⟩ := H
             have hnb97 := NB421_423.out
             have hnc97 := NB423_421.out
             have hcz98_0 : wc.cell? ⟨gb421, 0, none⟩ = some (.bool a2_0) := (blk_cell BK421.out 0).trans rfl
             have hcz98_1 : wc.cell? ⟨gb421, 1, none⟩ = some (.bool false) := (blk_cell BK421.out 1).trans rfl
             have hcz98_2 : wc.cell? ⟨gb421, 2, none⟩ = some (.int .i64 a2_2) := (blk_cell BK421.out 2).trans rfl
             have hfz98_0 := blk_frozen BK421.out 0
             have hfz98_1 := blk_frozen BK421.out 1
             have hfz98_2 := blk_frozen BK421.out 2
             have p442 : 0 ≤ ((ji88) : Int) := of_decide_eq_true (by first | (with_reducible assumption) | assumption)
             have q442 : (ji88) < (l3.length : Int) := of_decide_eq_true (by first | (with_reducible assumption) | assumption)
             obtain ⟨ad442, e442, hx442_0, hx442_1, hx442_2, hx442_3⟩ := at_T80 HR3.out (ji88) p442 q442
             cases e442
             replace hx442_0 := (HB.out.cell (World.block_lt_of_cell? w _ hx442_0)).trans hx442_0
             replace hx442_1 := (HB.out.cell (World.block_lt_of_cell? w _ hx442_1)).trans hx442_1
             replace hx442_2 := (HB.out.cell (World.block_lt_of_cell? w _ hx442_2)).trans hx442_2
             replace hx442_3 := (HB.out.cell (World.block_lt_of_cell? w _ hx442_3)).trans hx442_3
             replace p442 := eq_true p442
             replace q442 := eq_true q442
             go_wp2
             go_ret2
             exact ⟨_, by first | rfl | (simp [errW_none, errW_some] <;> rfl) | (simp only [← hji88]; first | rfl | (simp [errW_none, errW_some] <;> rfl)) | (simp [*, errW_none, errW_some] <;> rfl), by first | exact Kd.R_nil _ _ _ _ _ | exact Kd.N_nil _ _ _ _ _ | exact Kd.V_nil _ _ _ _ _ | exact Kd.Q_nil _ _ _ _ _ | exact Kd.S_nil _ _ _ _ _, by repeat (first | (with_reducible first | exact HB.out | apply below_alloc | apply pw_below_drewN | apply below_drew1 | refine below_set ?_ GE421.out | refine below_set ?_ GE423.out) | exact HB.out)⟩
           ·
            rw [if_neg c90] at H
            exact absurd H (by simp)
          ·
           rw [if_neg c89] at H
           exact absurd H (by simp)
       ·
        replace c81 := Bool.eq_false_iff.mpr c81
        subst c81
        have H1 : (some (([] : List (S43)), 2)) = some (r1, r2) := by rw [if_neg (show ¬ (false = true) by decide)] at H; exact H
        clear H
        have H := H1
        clear H1
        simp only [Option.some.injEq, Prod.mk.injEq] at H
        obtain ⟨rfl, rfl⟩ := H
        have hnb99 := NB421_423.out
        have hnc99 := NB423_421.out
        have hcz100_0 : wc.cell? ⟨gb421, 0, none⟩ = some (.bool a2_0) := (blk_cell BK421.out 0).trans rfl
        have hcz100_1 : wc.cell? ⟨gb421, 1, none⟩ = some (.bool false) := (blk_cell BK421.out 1).trans rfl
        have hcz100_2 : wc.cell? ⟨gb421, 2, none⟩ = some (.int .i64 a2_2) := (blk_cell BK421.out 2).trans rfl
        have hfz100_0 := blk_frozen BK421.out 0
        have hfz100_1 := blk_frozen BK421.out 1
        have hfz100_2 := blk_frozen BK421.out 2
        go_wp2
        go_ret2
        exact ⟨_, by first | rfl | (simp [errW_none, errW_some] <;> rfl) | (simp [*, errW_none, errW_some] <;> rfl), by first | exact Kd.R_nil _ _ _ _ _ | exact Kd.N_nil _ _ _ _ _ | exact Kd.V_nil _ _ _ _ _ | exact Kd.Q_nil _ _ _ _ _ | exact Kd.S_nil _ _ _ _ _, by repeat (first | (with_reducible first | exact HB.out | apply below_alloc | apply pw_below_drewN | apply below_drew1 | refine below_set ?_ GE421.out | refine below_set ?_ GE423.out) | exact HB.out)⟩
  ·
   rw [if_neg c6] at H
   exact absurd H (by simp)
 ·
  rw [if_neg c5] at H
  exact absurd H (by simp)

end Go.Proofs.Ytmijlibnembkaaa.PA
