-- Printed by wip/tools/extprint.py over the kit's printer, with contracts of this session's own. Lean checks it.
import Derived.Test.YtmijlibnembkaaaFsPAx0
import Derived.Test.YtmijlibnembkaaaFsPAx3
namespace Go.Proofs.Ytmijlibnembkaaa.PA
open Go.RowKit Go.Proofs.YtmijlibnembkaaaW.PrintWords Go.Proofs.YtmijlibnembkaaaW.PrintLast Go.Proofs.YtmijlibnembkaaaW.PrintMore
attribute [local go_sem] max2_int min2_int max_two min_two max_three min_three max_four min_four   -- for this text's walks alone
set_option linter.unusedVariables false
set_option linter.unusedSimpArgs false

/-! ### insn_without: function 47 -/
mutual
def insn_without.j0 : Nat → Int → Bool → Int → Int → Int → Int → Int → Option (Int × Int × Int × Int × Int)
 | 0, _, _, _, _, _, _, _ => none
 | k + 1, x3, x16, x107000, x107001, x107002, x107003, x107004 => if x16 = true then (some (x107000, 0, 0, 0, x107004)) else (if x3 = 2 then (some (x107000, 0, x107002, 0, 0)) else (if x3 = 4 then (insn_without.j1 k true x107000 x107001 x107002 x107003 x107004) else (insn_without.j1 k (x3 == 7) x107000 x107001 x107002 x107003 x107004)))
def insn_without.j1 : Nat → Bool → Int → Int → Int → Int → Int → Option (Int × Int × Int × Int × Int)
 | 0, _, _, _, _, _, _ => none
 | k + 1, x32, x107000, x107001, x107002, x107003, x107004 => if x32 = true then ((insn_Kind.f x107000).bind fun t109 => (if t109 = 128 then (some (x107000, 0, x107002, x107003, x107004)) else ((insn_ByReg.f x107000).bind fun t110 => (if t110 = true then (some (x107000, 0, 0, x107003, x107004)) else (some (x107000, 0, x107002, x107003, 0)))))) else (if x107000 = 5 then (some (x107000, x107001, x107002, 0, x107004)) else (if x107000 = 133 then (some (x107000, x107001, 0, x107003, 0)) else (if x107000 = 149 then (some (x107000, x107001, x107002, x107003, x107004)) else ((insn_ByReg.f x107000).bind fun t111 => (if t111 = true then (some (x107000, 0, 0, 0, x107004)) else (some (x107000, 0, x107002, 0, 0)))))))
end
def insn_without.f (k : Nat) (a0_0 : Int) (a0_1 : Int) (a0_2 : Int) (a0_3 : Int) (a0_4 : Int) : Option (Int × Int × Int × Int × Int) := (insn_Class.f a0_0).bind fun t108 => (if t108 = 0 then (some (a0_0, 0, 0, a0_3, 0)) else (if t108 = 1 then (insn_without.j0 k t108 true a0_0 a0_1 a0_2 a0_3 a0_4) else (insn_without.j0 k t108 (t108 == 3) a0_0 a0_1 a0_2 a0_3 a0_4)))
theorem insn_without.mono_l : ∀ k, (∀ y0 y1 y2 y3 y4 y5 y6, LeO (insn_without.j0 k y0 y1 y2 y3 y4 y5 y6) (insn_without.j0 (k + 1) y0 y1 y2 y3 y4 y5 y6)) ∧ (∀ y0 y1 y2 y3 y4 y5, LeO (insn_without.j1 k y0 y1 y2 y3 y4 y5) (insn_without.j1 (k + 1) y0 y1 y2 y3 y4 y5))
 | 0 => ⟨fun _ _ _ _ _ _ _ r h => by simp [insn_without.j0] at h, fun _ _ _ _ _ _ r h => by simp [insn_without.j1] at h⟩
 | k + 1 => by
  obtain ⟨ih0, ih1⟩ := insn_without.mono_l k
  refine ⟨?_, ?_⟩
  ·
   intro y0 y1 y2 y3 y4 y5 y6
   unfold insn_without.j0
   repeat' first
   | (with_reducible exact ih0 _ _ _ _ _ _ _)
   | (with_reducible exact ih1 _ _ _ _ _ _)
   | (with_reducible exact LeO.refl _)
   | (with_reducible exact LeO.none _)
   | (with_reducible refine LeO.ite ?_ ?_)
   | (with_reducible refine LeO.bind ?_ (fun _ => ?_))
  ·
   intro y0 y1 y2 y3 y4 y5
   unfold insn_without.j1
   repeat' first
   | (with_reducible exact ih0 _ _ _ _ _ _ _)
   | (with_reducible exact ih1 _ _ _ _ _ _)
   | (with_reducible exact LeO.refl _)
   | (with_reducible exact LeO.none _)
   | (with_reducible refine LeO.ite ?_ ?_)
   | (with_reducible refine LeO.bind ?_ (fun _ => ?_))
theorem insn_without.mono : ∀ a0 a1 a2 a3 a4 k, LeO (insn_without.f k a0 a1 a2 a3 a4) (insn_without.f (k + 1) a0 a1 a2 a3 a4) := by
 intro a0 a1 a2 a3 a4 k
 obtain ⟨ih0, ih1⟩ := insn_without.mono_l k
 unfold insn_without.f
 repeat' first
   | (with_reducible exact ih0 _ _ _ _ _ _ _)
   | (with_reducible exact ih1 _ _ _ _ _ _)
   | (with_reducible exact LeO.refl _)
   | (with_reducible exact LeO.none _)
   | (with_reducible refine LeO.ite ?_ ?_)
   | (with_reducible refine LeO.bind ?_ (fun _ => ?_))
set_option maxHeartbeats 8000000 in
set_option maxRecDepth 100000 in
theorem insn_without.calls (k : Nat) (a0_0 : Int) (a0_1 : Int) (a0_2 : Int) (a0_3 : Int) (a0_4 : Int) (r1 : Int) (r2 : Int) (r3 : Int) (r4 : Int) (r5 : Int) (w : World) (h : insn_without.f k a0_0 a0_1 a0_2 a0_3 a0_4 = some (r1, r2, r3, r4, r5)) :
  Calls Try.prog 47 #[.agg #[.int .u8 a0_0, .int .u8 a0_1, .int .u8 a0_2, .int .i16 a0_3, .int .i32 a0_4]] w fun e w' => e = .returned (.agg #[.int .u8 r1, .int .u8 r2, .int .u8 r3, .int .i16 r4, .int .i32 r5]) ∧ Below w.heap.size w w' := by
 have hu43 := Try.underlying43
 have HB := Aside0.mk (Below.refl w.heap.size w)
 have H : ((insn_Class.f a0_0).bind fun t108 => (if t108 = 0 then (some (a0_0, 0, 0, a0_3, 0)) else (if t108 = 1 then (insn_without.j0 k t108 true a0_0 a0_1 a0_2 a0_3 a0_4) else (insn_without.j0 k t108 (t108 == 3) a0_0 a0_1 a0_2 a0_3 a0_4)))) = some (r1, r2, r3, r4, r5) := h
 clear h
 replace H := Option.bind_eq_some_iff.mp H
 obtain ⟨t108, A20, H⟩ := H
 replace H : (if t108 = 0 then (some (a0_0, 0, 0, a0_3, 0)) else (if t108 = 1 then (insn_without.j0 k t108 true a0_0 a0_1 a0_2 a0_3 a0_4) else (insn_without.j0 k t108 (t108 == 3) a0_0 a0_1 a0_2 a0_3 a0_4))) = some (r1, r2, r3, r4, r5) := H
 have A2 := Aside0.mk A20
 clear A20
 by_cases c3 : t108 = 0
 ·
  rw [if_pos c3] at H
  have c3b0 : (t108 == 0) = true := beq_iff_eq.mpr c3
  have c3b1 : (t108 != 0) = false := bne_eq_false_iff_eq.mpr c3
  clear c3
  simp only [Option.some.injEq, Prod.mk.injEq] at H
  obtain ⟨rfl, rfl, rfl, rfl, rfl⟩ := H
  go_enter Try.func47, Try.ntmps47
  go_wp2_with (first | ((with_reducible refine gate_dst (N := 1) rfl ?_); refine box_event ?hg (N := 1) ?hd (cs := #[.int .u8 a0_0, .int .u8 a0_1, .int .u8 a0_2, .int .i16 a0_3, .int .i32 a0_4]) (t := 43) ?hr ?_; (case hd => rfl); (case hg => rfl); (case hr => first | (go_simp; done) | (go_simp; rfl)); intro gb106 hg w4 hbox hb; have n0_ := Aside0.mk (below_step (by repeat (first | (with_reducible first | exact HB.out | apply below_alloc | apply pw_below_drewN | apply below_drew1) | exact HB.out)) hb); have n1_ := Aside0.mk (hbox); have n2_ := Aside0.mk ((by rw [hg]; exact (below_size (by repeat (first | (with_reducible first | exact HB.out | apply below_alloc | apply pw_below_drewN | apply below_drew1) | exact HB.out))) : w.heap.size ≤ gb106)); have n3_ := Aside0.mk ((by rw [hg]; exact (below_size (by repeat (first | (with_reducible first | exact HB.out | apply below_alloc | apply pw_below_drewN | apply below_drew1) | exact HB.out))) : w.heap.size ≤ gb106)); clear HB; have HB := n0_; have BK106 := n1_; have GW106 := n2_; have GE106 := n3_; clear n0_ n1_ n2_ n3_; clear hb hbox hg) | ((with_reducible refine gate_dst (N := 2) rfl ?_); refine box_event ?hg (N := 2) ?hd (cs := #[.int .u8 0, .int .u8 0, .int .u8 0, .int .i16 0, .int .i32 0]) (t := 43) ?hr ?_; (case hd => rfl); (case hg => rfl); (case hr => first | (go_simp; done) | (go_simp; rfl)); intro gb107 hg w5 hbox hb; have n0_ := Aside0.mk (blk_below (g := gb106) (o := .cells #[.int .u8 a0_0, .int .u8 a0_1, .int .u8 a0_2, .int .i16 a0_3, .int .i32 a0_4] 43 (0, 0)) (by (with_reducible repeat (first | refine blk_drewN ?_ _ | refine blk_drew ?_ | refine blk_alloc ?_ _)); exact BK106.out) hb); have n1_ := Aside0.mk (below_step (by repeat (first | (with_reducible first | exact HB.out | apply below_alloc | apply pw_below_drewN | apply below_drew1 | refine below_set ?_ GE106.out) | exact HB.out)) hb); have n2_ := Aside0.mk (hbox); have n3_ := Aside0.mk ((by rw [hg]; exact (below_size (by repeat (first | (with_reducible first | exact HB.out | apply below_alloc | apply pw_below_drewN | apply below_drew1 | refine below_set ?_ GE106.out) | exact HB.out))) : w.heap.size ≤ gb107)); have n4_ := Aside0.mk ((by rw [hg]; exact (below_size (by repeat (first | (with_reducible first | exact HB.out | apply below_alloc | apply pw_below_drewN | apply below_drew1 | refine below_set ?_ GE106.out) | exact HB.out))) : w.heap.size ≤ gb107)); have n5_ := Aside0.mk ((by rw [hg]; exact Nat.ne_of_lt (blk_lt (g := gb106) (o := .cells #[.int .u8 a0_0, .int .u8 a0_1, .int .u8 a0_2, .int .i16 a0_3, .int .i32 a0_4] 43 (0, 0)) (by (with_reducible repeat (first | refine blk_drewN ?_ _ | refine blk_drew ?_ | refine blk_alloc ?_ _)); exact BK106.out)) : gb106 ≠ gb107)); have n6_ := Aside0.mk ((by rw [hg]; exact Nat.ne_of_gt (blk_lt (g := gb106) (o := .cells #[.int .u8 a0_0, .int .u8 a0_1, .int .u8 a0_2, .int .i16 a0_3, .int .i32 a0_4] 43 (0, 0)) (by (with_reducible repeat (first | refine blk_drewN ?_ _ | refine blk_drew ?_ | refine blk_alloc ?_ _)); exact BK106.out)) : gb107 ≠ gb106)); clear BK106; clear HB; have BK106 := n0_; have HB := n1_; have BK107 := n2_; have GW107 := n3_; have GE107 := n4_; have NB106_107 := n5_; have NB107_106 := n6_; clear n0_ n1_ n2_ n3_ n4_ n5_ n6_; clear hb hbox hg; have hnb6 := NB106_107.out; have hnc6 := NB107_106.out; have hcz7_0 : w5.cell? ⟨gb106, 0, none⟩ = some (.int .u8 a0_0) := (blk_cell BK106.out 0).trans rfl; have hcz7_1 : w5.cell? ⟨gb106, 1, none⟩ = some (.int .u8 a0_1) := (blk_cell BK106.out 1).trans rfl; have hcz7_2 : w5.cell? ⟨gb106, 2, none⟩ = some (.int .u8 a0_2) := (blk_cell BK106.out 2).trans rfl; have hcz7_3 : w5.cell? ⟨gb106, 3, none⟩ = some (.int .i16 a0_3) := (blk_cell BK106.out 3).trans rfl; have hcz7_4 : w5.cell? ⟨gb106, 4, none⟩ = some (.int .i32 a0_4) := (blk_cell BK106.out 4).trans rfl; have hfz7_0 := blk_frozen BK106.out 0; have hfz7_1 := blk_frozen BK106.out 1; have hfz7_2 := blk_frozen BK106.out 2; have hfz7_3 := blk_frozen BK106.out 3; have hfz7_4 := blk_frozen BK106.out 4) | ((with_reducible refine gate_callee (f := 48) rfl ?_); refine goesL_ (some 6) rfl rfl Try.func48 (by kernel_rfl) rfl #[.int .u8 a0_0] rfl (by (try simp only [List.map_toArray, List.map_cons, List.map_nil]); first | done | rfl | (simp only [List.length_drop, List.length_take]; rfl)) ?_; (with_reducible refine (insn_Class.calls a0_0 t108 _ A2.out).mono ?_); rintro e w' ⟨rfl, ⟨nd, rfl⟩⟩; refine ⟨_, rfl, ?_⟩; (try (rw [drewN_self w5]; generalize hq_ : World.drewN w5 _ = w5; have n0_ : Aside0 (w5.heap[gb106]? = some (.cells #[.int .u8 a0_0, .int .u8 a0_1, .int .u8 a0_2, .int .i16 a0_3, .int .i32 a0_4] 43 (0, 0))) := ⟨by rw [← hq_]; exact (by (with_reducible repeat (first | refine blk_drewN ?_ _ | refine blk_drew ?_ | refine blk_alloc ?_ _)); exact BK106.out)⟩; have n1_ : Aside0 (w5.heap[gb107]? = some (.cells #[.int .u8 0, .int .u8 0, .int .u8 0, .int .i16 0, .int .i32 0] 43 (0, 0))) := ⟨by rw [← hq_]; exact (by (with_reducible repeat (first | refine blk_drewN ?_ _ | refine blk_drew ?_ | refine blk_alloc ?_ _)); exact BK107.out)⟩; have n2_ : Aside0 (Below w.heap.size w w5) := ⟨by rw [← hq_]; exact (by repeat (first | (with_reducible first | exact HB.out | apply below_alloc | apply pw_below_drewN | apply below_drew1 | refine below_set ?_ GE106.out | refine below_set ?_ GE107.out) | exact HB.out))⟩; clear BK106 BK107 HB hq_; have BK106 := n0_; have BK107 := n1_; have HB := n2_; clear n0_ n1_ n2_)); (try have hczu8_0 : w5.cell? ⟨gb106, 0, none⟩ = some (.int .u8 a0_0) := (blk_cell BK106.out 0).trans rfl); (try have hczu8_1 : w5.cell? ⟨gb106, 1, none⟩ = some (.int .u8 a0_1) := (blk_cell BK106.out 1).trans rfl); (try have hczu8_2 : w5.cell? ⟨gb106, 2, none⟩ = some (.int .u8 a0_2) := (blk_cell BK106.out 2).trans rfl); (try have hczu8_3 : w5.cell? ⟨gb106, 3, none⟩ = some (.int .i16 a0_3) := (blk_cell BK106.out 3).trans rfl); (try have hczu8_4 : w5.cell? ⟨gb106, 4, none⟩ = some (.int .i32 a0_4) := (blk_cell BK106.out 4).trans rfl); have hfzu8_0 := blk_frozen BK106.out 0; have hfzu8_1 := blk_frozen BK106.out 1; have hfzu8_2 := blk_frozen BK106.out 2; have hfzu8_3 := blk_frozen BK106.out 3; have hfzu8_4 := blk_frozen BK106.out 4; (try have hczu9_0 : w5.cell? ⟨gb107, 0, none⟩ = some (.int .u8 0) := (blk_cell BK107.out 0).trans rfl); (try have hczu9_1 : w5.cell? ⟨gb107, 1, none⟩ = some (.int .u8 0) := (blk_cell BK107.out 1).trans rfl); (try have hczu9_2 : w5.cell? ⟨gb107, 2, none⟩ = some (.int .u8 0) := (blk_cell BK107.out 2).trans rfl); (try have hczu9_3 : w5.cell? ⟨gb107, 3, none⟩ = some (.int .i16 0) := (blk_cell BK107.out 3).trans rfl); (try have hczu9_4 : w5.cell? ⟨gb107, 4, none⟩ = some (.int .i32 0) := (blk_cell BK107.out 4).trans rfl); have hfzu9_0 := blk_frozen BK107.out 0; have hfzu9_1 := blk_frozen BK107.out 1; have hfzu9_2 := blk_frozen BK107.out 2; have hfzu9_3 := blk_frozen BK107.out 3; have hfzu9_4 := blk_frozen BK107.out 4; have hcz10_0 : w5.cell? ⟨gb107, 0, none⟩ = some (.int .u8 0) := (blk_cell BK107.out 0).trans rfl; have hcz10_1 : w5.cell? ⟨gb107, 1, none⟩ = some (.int .u8 0) := (blk_cell BK107.out 1).trans rfl; have hcz10_2 : w5.cell? ⟨gb107, 2, none⟩ = some (.int .u8 0) := (blk_cell BK107.out 2).trans rfl; have hcz10_3 : w5.cell? ⟨gb107, 3, none⟩ = some (.int .i16 0) := (blk_cell BK107.out 3).trans rfl; have hcz10_4 : w5.cell? ⟨gb107, 4, none⟩ = some (.int .i32 0) := (blk_cell BK107.out 4).trans rfl; have hfz10_0 := blk_frozen BK107.out 0; have hfz10_1 := blk_frozen BK107.out 1; have hfz10_2 := blk_frozen BK107.out 2; have hfz10_3 := blk_frozen BK107.out 3; have hfz10_4 := blk_frozen BK107.out 4))
  refine bodyPost_ret (results_cell_row rfl _ _ gb107 43 #[.int .u8 a0_0, .int .u8 0, .int .u8 0, .int .i16 a0_3, .int .i32 0] (0, 0) _ rfl (by (with_reducible repeat (first | refine blk_drewN ?_ _ | refine blk_drew ?_ | refine blk_alloc ?_ _)); refine blk_put (cs := #[.int .u8 a0_0, .int .u8 0, .int .u8 0, .int .i16 a0_3, .int .i32 0]) ?_ 4 _ rfl; (with_reducible repeat (first | refine blk_drewN ?_ _ | refine blk_drew ?_ | refine blk_alloc ?_ _)); refine blk_put (cs := #[.int .u8 a0_0, .int .u8 0, .int .u8 0, .int .i16 0, .int .i32 0]) ?_ 3 _ rfl; (with_reducible repeat (first | refine blk_drewN ?_ _ | refine blk_drew ?_ | refine blk_alloc ?_ _)); refine blk_put (cs := #[.int .u8 a0_0, .int .u8 0, .int .u8 0, .int .i16 0, .int .i32 0]) ?_ 2 _ rfl; (with_reducible repeat (first | refine blk_drewN ?_ _ | refine blk_drew ?_ | refine blk_alloc ?_ _)); refine blk_put (cs := #[.int .u8 a0_0, .int .u8 0, .int .u8 0, .int .i16 0, .int .i32 0]) ?_ 1 _ rfl; (with_reducible repeat (first | refine blk_drewN ?_ _ | refine blk_drew ?_ | refine blk_alloc ?_ _)); refine blk_put (cs := #[.int .u8 0, .int .u8 0, .int .u8 0, .int .i16 0, .int .i32 0]) ?_ 0 _ rfl; (with_reducible repeat (first | refine blk_drewN ?_ _ | refine blk_drew ?_ | refine blk_alloc ?_ _)); refine blk_far ?_ NB107_106.out _; (with_reducible repeat (first | refine blk_drewN ?_ _ | refine blk_drew ?_ | refine blk_alloc ?_ _)); refine blk_far ?_ NB107_106.out _; (with_reducible repeat (first | refine blk_drewN ?_ _ | refine blk_drew ?_ | refine blk_alloc ?_ _)); refine blk_far ?_ NB107_106.out _; (with_reducible repeat (first | refine blk_drewN ?_ _ | refine blk_drew ?_ | refine blk_alloc ?_ _)); exact BK107.out) Try.underlying43 rfl (by kernel_rfl)) rfl ?_
  exact ⟨by first | rfl | (simp [errW_none, errW_some] <;> rfl) | (simp [*, errW_none, errW_some] <;> rfl), by repeat (first | (with_reducible first | exact HB.out | apply below_alloc | apply pw_below_drewN | apply below_drew1 | refine below_set ?_ GE106.out | refine below_set ?_ GE107.out) | exact HB.out)⟩
 ·
  rw [if_neg c3] at H
  have c3b0 : (t108 == 0) = false := beq_eq_false_iff_ne.mpr c3
  have c3b1 : (t108 != 0) = true := bne_iff_ne.mpr c3
  have HC11 := Aside0.mk H
  clear H
  go_enter Try.func47, Try.ntmps47
  go_upto_region 5 with (first | ((with_reducible refine gate_dst (N := 1) rfl ?_); refine box_event ?hg (N := 1) ?hd (cs := #[.int .u8 a0_0, .int .u8 a0_1, .int .u8 a0_2, .int .i16 a0_3, .int .i32 a0_4]) (t := 43) ?hr ?_; (case hd => rfl); (case hg => rfl); (case hr => first | (go_simp; done) | (go_simp; rfl)); intro gb106 hg w12 hbox hb; have n0_ := Aside0.mk (below_step (by repeat (first | (with_reducible first | exact HB.out | apply below_alloc | apply pw_below_drewN | apply below_drew1) | exact HB.out)) hb); have n1_ := Aside0.mk (hbox); have n2_ := Aside0.mk ((by rw [hg]; exact (below_size (by repeat (first | (with_reducible first | exact HB.out | apply below_alloc | apply pw_below_drewN | apply below_drew1) | exact HB.out))) : w.heap.size ≤ gb106)); have n3_ := Aside0.mk ((by rw [hg]; exact (below_size (by repeat (first | (with_reducible first | exact HB.out | apply below_alloc | apply pw_below_drewN | apply below_drew1) | exact HB.out))) : w.heap.size ≤ gb106)); clear HB; have HB := n0_; have BK106 := n1_; have GW106 := n2_; have GE106 := n3_; clear n0_ n1_ n2_ n3_; clear hb hbox hg) | ((with_reducible refine gate_dst (N := 2) rfl ?_); refine box_event ?hg (N := 2) ?hd (cs := #[.int .u8 0, .int .u8 0, .int .u8 0, .int .i16 0, .int .i32 0]) (t := 43) ?hr ?_; (case hd => rfl); (case hg => rfl); (case hr => first | (go_simp; done) | (go_simp; rfl)); intro gb107 hg w13 hbox hb; have n0_ := Aside0.mk (blk_below (g := gb106) (o := .cells #[.int .u8 a0_0, .int .u8 a0_1, .int .u8 a0_2, .int .i16 a0_3, .int .i32 a0_4] 43 (0, 0)) (by (with_reducible repeat (first | refine blk_drewN ?_ _ | refine blk_drew ?_ | refine blk_alloc ?_ _)); exact BK106.out) hb); have n1_ := Aside0.mk (below_step (by repeat (first | (with_reducible first | exact HB.out | apply below_alloc | apply pw_below_drewN | apply below_drew1 | refine below_set ?_ GE106.out) | exact HB.out)) hb); have n2_ := Aside0.mk (hbox); have n3_ := Aside0.mk ((by rw [hg]; exact (below_size (by repeat (first | (with_reducible first | exact HB.out | apply below_alloc | apply pw_below_drewN | apply below_drew1 | refine below_set ?_ GE106.out) | exact HB.out))) : w.heap.size ≤ gb107)); have n4_ := Aside0.mk ((by rw [hg]; exact (below_size (by repeat (first | (with_reducible first | exact HB.out | apply below_alloc | apply pw_below_drewN | apply below_drew1 | refine below_set ?_ GE106.out) | exact HB.out))) : w.heap.size ≤ gb107)); have n5_ := Aside0.mk ((by rw [hg]; exact Nat.ne_of_lt (blk_lt (g := gb106) (o := .cells #[.int .u8 a0_0, .int .u8 a0_1, .int .u8 a0_2, .int .i16 a0_3, .int .i32 a0_4] 43 (0, 0)) (by (with_reducible repeat (first | refine blk_drewN ?_ _ | refine blk_drew ?_ | refine blk_alloc ?_ _)); exact BK106.out)) : gb106 ≠ gb107)); have n6_ := Aside0.mk ((by rw [hg]; exact Nat.ne_of_gt (blk_lt (g := gb106) (o := .cells #[.int .u8 a0_0, .int .u8 a0_1, .int .u8 a0_2, .int .i16 a0_3, .int .i32 a0_4] 43 (0, 0)) (by (with_reducible repeat (first | refine blk_drewN ?_ _ | refine blk_drew ?_ | refine blk_alloc ?_ _)); exact BK106.out)) : gb107 ≠ gb106)); clear BK106; clear HB; have BK106 := n0_; have HB := n1_; have BK107 := n2_; have GW107 := n3_; have GE107 := n4_; have NB106_107 := n5_; have NB107_106 := n6_; clear n0_ n1_ n2_ n3_ n4_ n5_ n6_; clear hb hbox hg; have hnb14 := NB106_107.out; have hnc14 := NB107_106.out; have hcz15_0 : w13.cell? ⟨gb106, 0, none⟩ = some (.int .u8 a0_0) := (blk_cell BK106.out 0).trans rfl; have hcz15_1 : w13.cell? ⟨gb106, 1, none⟩ = some (.int .u8 a0_1) := (blk_cell BK106.out 1).trans rfl; have hcz15_2 : w13.cell? ⟨gb106, 2, none⟩ = some (.int .u8 a0_2) := (blk_cell BK106.out 2).trans rfl; have hcz15_3 : w13.cell? ⟨gb106, 3, none⟩ = some (.int .i16 a0_3) := (blk_cell BK106.out 3).trans rfl; have hcz15_4 : w13.cell? ⟨gb106, 4, none⟩ = some (.int .i32 a0_4) := (blk_cell BK106.out 4).trans rfl; have hfz15_0 := blk_frozen BK106.out 0; have hfz15_1 := blk_frozen BK106.out 1; have hfz15_2 := blk_frozen BK106.out 2; have hfz15_3 := blk_frozen BK106.out 3; have hfz15_4 := blk_frozen BK106.out 4) | ((with_reducible refine gate_callee (f := 48) rfl ?_); refine goesL_ (some 6) rfl rfl Try.func48 (by kernel_rfl) rfl #[.int .u8 a0_0] rfl (by (try simp only [List.map_toArray, List.map_cons, List.map_nil]); first | done | rfl | (simp only [List.length_drop, List.length_take]; rfl)) ?_; (with_reducible refine (insn_Class.calls a0_0 t108 _ A2.out).mono ?_); rintro e w' ⟨rfl, ⟨nd, rfl⟩⟩; refine ⟨_, rfl, ?_⟩))
  (try simp only [Act.put, List.setIfInBounds_toArray, List.set_cons_zero, List.set_cons_succ])
  go_cut [16] (fun v16 wc => ∃ (kq : Nat) (x16_10 : Bool), v16 = .bool x16_10 ∧ Aside0 (insn_without.j0 kq t108 x16_10 a0_0 a0_1 a0_2 a0_3 a0_4 = some (r1, r2, r3, r4, r5)) ∧ Aside0 (kq ≤ k) ∧ Aside0 (wc.heap[gb106]? = some (.cells #[.int .u8 a0_0, .int .u8 a0_1, .int .u8 a0_2, .int .i16 a0_3, .int .i32 a0_4] 43 (0, 0))) ∧ Aside0 (wc.heap[gb107]? = some (.cells #[.int .u8 0, .int .u8 0, .int .u8 0, .int .i16 0, .int .i32 0] 43 (0, 0))) ∧ Aside0 (Below w.heap.size w wc))
  case first =>
   have H := HC11.out
   clear HC11
   by_cases c16 : t108 = 1
   ·
    rw [if_pos c16] at H
    have c16b0 : (t108 == 1) = true := beq_iff_eq.mpr c16
    have c16b1 : (t108 != 1) = false := bne_eq_false_iff_eq.mpr c16
    clear c16
    (first | rw [c16b0] | (simp only [i64_w, i32_w]; rw [c16b0]) | skip)
    have H' := Aside0.mk H
    clear H
    go_wp2
    go_meet
    case rel => exact ⟨_, (true), (by first | rfl | (simp; done) | (simp [*]; done)), H', ⟨by first | omega | exact Nat.le_refl _⟩, ⟨by (with_reducible repeat (first | refine blk_drewN ?_ _ | refine blk_drew ?_ | refine blk_alloc ?_ _)); exact BK106.out⟩, ⟨by (with_reducible repeat (first | refine blk_drewN ?_ _ | refine blk_drew ?_ | refine blk_alloc ?_ _)); exact BK107.out⟩, ⟨by repeat (first | (with_reducible first | exact HB.out | apply below_alloc | apply pw_below_drewN | apply below_drew1 | refine below_set ?_ GE106.out | refine below_set ?_ GE107.out) | exact HB.out)⟩⟩
   ·
    rw [if_neg c16] at H
    have c16b0 : (t108 == 1) = false := beq_eq_false_iff_ne.mpr c16
    have c16b1 : (t108 != 1) = true := bne_iff_ne.mpr c16
    (first | rw [c16b0] | (simp only [i64_w, i32_w]; rw [c16b0]) | skip)
    have H' := Aside0.mk H
    clear H
    go_wp2
    go_meet
    case rel => exact ⟨_, ((t108 == 3)), (by first | rfl | (simp; done) | (simp [*]; done)), H', ⟨by first | omega | exact Nat.le_refl _⟩, ⟨by (with_reducible repeat (first | refine blk_drewN ?_ _ | refine blk_drew ?_ | refine blk_alloc ?_ _)); exact BK106.out⟩, ⟨by (with_reducible repeat (first | refine blk_drewN ?_ _ | refine blk_drew ?_ | refine blk_alloc ?_ _)); exact BK107.out⟩, ⟨by repeat (first | (with_reducible first | exact HB.out | apply below_alloc | apply pw_below_drewN | apply below_drew1 | refine below_set ?_ GE106.out | refine below_set ?_ GE107.out) | exact HB.out)⟩⟩
  case rest =>
   clear HC11
   try clear c1; try clear p2; try clear c3; try clear c3b0; try clear c3b1; try clear c4; try clear c6; try clear c14; try clear c16; try clear c16b0; try clear c16b1; try clear hcz10_0; try clear hcz10_1; try clear hcz10_2; try clear hcz10_3; try clear hcz10_4; try clear hcz15_0; try clear hcz15_1; try clear hcz15_2; try clear hcz15_3; try clear hcz15_4; try clear hcz7_0; try clear hcz7_1; try clear hcz7_2; try clear hcz7_3; try clear hcz7_4; try clear hfz10_0; try clear hfz10_1; try clear hfz10_2; try clear hfz10_3; try clear hfz10_4; try clear hfz15_0; try clear hfz15_1; try clear hfz15_2; try clear hfz15_3; try clear hfz15_4; try clear hfz7_0; try clear hfz7_1; try clear hfz7_2; try clear hfz7_3; try clear hfz7_4
   obtain ⟨kq, x16_10, rfl, HA, HJ10, BK106, BK107, HB⟩ := hcut
   cases kq with
   | zero => exact absurd HA.out (by simp [insn_without.j0])
   | succ kj10 =>
    have H := HA.out
    clear HA
    simp only [insn_without.j0] at H
    by_cases c17 : x16_10 = true
    ·
     subst c17
     have H1 : (some (a0_0, 0, 0, 0, a0_4)) = some (r1, r2, r3, r4, r5) := by rw [if_pos rfl] at H; exact H
     clear H
     have H := H1
     clear H1
     simp only [Option.some.injEq, Prod.mk.injEq] at H
     obtain ⟨rfl, rfl, rfl, rfl, rfl⟩ := H
     have hnb18 := NB106_107.out
     have hnc18 := NB107_106.out
     have hcz19_0 : wc.cell? ⟨gb106, 0, none⟩ = some (.int .u8 a0_0) := (blk_cell BK106.out 0).trans rfl
     have hcz19_1 : wc.cell? ⟨gb106, 1, none⟩ = some (.int .u8 a0_1) := (blk_cell BK106.out 1).trans rfl
     have hcz19_2 : wc.cell? ⟨gb106, 2, none⟩ = some (.int .u8 a0_2) := (blk_cell BK106.out 2).trans rfl
     have hcz19_3 : wc.cell? ⟨gb106, 3, none⟩ = some (.int .i16 a0_3) := (blk_cell BK106.out 3).trans rfl
     have hcz19_4 : wc.cell? ⟨gb106, 4, none⟩ = some (.int .i32 a0_4) := (blk_cell BK106.out 4).trans rfl
     have hfz19_0 := blk_frozen BK106.out 0
     have hfz19_1 := blk_frozen BK106.out 1
     have hfz19_2 := blk_frozen BK106.out 2
     have hfz19_3 := blk_frozen BK106.out 3
     have hfz19_4 := blk_frozen BK106.out 4
     have hcz20_0 : wc.cell? ⟨gb107, 0, none⟩ = some (.int .u8 0) := (blk_cell BK107.out 0).trans rfl
     have hcz20_1 : wc.cell? ⟨gb107, 1, none⟩ = some (.int .u8 0) := (blk_cell BK107.out 1).trans rfl
     have hcz20_2 : wc.cell? ⟨gb107, 2, none⟩ = some (.int .u8 0) := (blk_cell BK107.out 2).trans rfl
     have hcz20_3 : wc.cell? ⟨gb107, 3, none⟩ = some (.int .i16 0) := (blk_cell BK107.out 3).trans rfl
     have hcz20_4 : wc.cell? ⟨gb107, 4, none⟩ = some (.int .i32 0) := (blk_cell BK107.out 4).trans rfl
     have hfz20_0 := blk_frozen BK107.out 0
     have hfz20_1 := blk_frozen BK107.out 1
     have hfz20_2 := blk_frozen BK107.out 2
     have hfz20_3 := blk_frozen BK107.out 3
     have hfz20_4 := blk_frozen BK107.out 4
     go_wp2
     refine bodyPost_ret (results_cell_row rfl _ _ gb107 43 #[.int .u8 a0_0, .int .u8 0, .int .u8 0, .int .i16 0, .int .i32 a0_4] (0, 0) _ rfl (by (with_reducible repeat (first | refine blk_drewN ?_ _ | refine blk_drew ?_ | refine blk_alloc ?_ _)); refine blk_put (cs := #[.int .u8 a0_0, .int .u8 0, .int .u8 0, .int .i16 0, .int .i32 0]) ?_ 4 _ rfl; (with_reducible repeat (first | refine blk_drewN ?_ _ | refine blk_drew ?_ | refine blk_alloc ?_ _)); refine blk_put (cs := #[.int .u8 a0_0, .int .u8 0, .int .u8 0, .int .i16 0, .int .i32 0]) ?_ 3 _ rfl; (with_reducible repeat (first | refine blk_drewN ?_ _ | refine blk_drew ?_ | refine blk_alloc ?_ _)); refine blk_put (cs := #[.int .u8 a0_0, .int .u8 0, .int .u8 0, .int .i16 0, .int .i32 0]) ?_ 2 _ rfl; (with_reducible repeat (first | refine blk_drewN ?_ _ | refine blk_drew ?_ | refine blk_alloc ?_ _)); refine blk_put (cs := #[.int .u8 a0_0, .int .u8 0, .int .u8 0, .int .i16 0, .int .i32 0]) ?_ 1 _ rfl; (with_reducible repeat (first | refine blk_drewN ?_ _ | refine blk_drew ?_ | refine blk_alloc ?_ _)); refine blk_put (cs := #[.int .u8 0, .int .u8 0, .int .u8 0, .int .i16 0, .int .i32 0]) ?_ 0 _ rfl; (with_reducible repeat (first | refine blk_drewN ?_ _ | refine blk_drew ?_ | refine blk_alloc ?_ _)); refine blk_far ?_ NB107_106.out _; (with_reducible repeat (first | refine blk_drewN ?_ _ | refine blk_drew ?_ | refine blk_alloc ?_ _)); refine blk_far ?_ NB107_106.out _; (with_reducible repeat (first | refine blk_drewN ?_ _ | refine blk_drew ?_ | refine blk_alloc ?_ _)); refine blk_far ?_ NB107_106.out _; (with_reducible repeat (first | refine blk_drewN ?_ _ | refine blk_drew ?_ | refine blk_alloc ?_ _)); exact BK107.out) Try.underlying43 rfl (by kernel_rfl)) rfl ?_
     exact ⟨by first | rfl | (simp [errW_none, errW_some] <;> rfl) | (simp [*, errW_none, errW_some] <;> rfl), by repeat (first | (with_reducible first | exact HB.out | apply below_alloc | apply pw_below_drewN | apply below_drew1 | refine below_set ?_ GE106.out | refine below_set ?_ GE107.out) | exact HB.out)⟩
    ·
     replace c17 := Bool.eq_false_iff.mpr c17
     subst c17
     have H1 : (if t108 = 2 then (some (a0_0, 0, a0_2, 0, 0)) else (if t108 = 4 then (insn_without.j1 kj10 true a0_0 a0_1 a0_2 a0_3 a0_4) else (insn_without.j1 kj10 (t108 == 7) a0_0 a0_1 a0_2 a0_3 a0_4))) = some (r1, r2, r3, r4, r5) := by rw [if_neg (show ¬ (false = true) by decide)] at H; exact H
     clear H
     have H := H1
     clear H1
     by_cases c21 : t108 = 2
     ·
      rw [if_pos c21] at H
      have c21b0 : (t108 == 2) = true := beq_iff_eq.mpr c21
      have c21b1 : (t108 != 2) = false := bne_eq_false_iff_eq.mpr c21
      clear c21
      simp only [Option.some.injEq, Prod.mk.injEq] at H
      obtain ⟨rfl, rfl, rfl, rfl, rfl⟩ := H
      have hnb22 := NB106_107.out
      have hnc22 := NB107_106.out
      have hcz23_0 : wc.cell? ⟨gb106, 0, none⟩ = some (.int .u8 a0_0) := (blk_cell BK106.out 0).trans rfl
      have hcz23_1 : wc.cell? ⟨gb106, 1, none⟩ = some (.int .u8 a0_1) := (blk_cell BK106.out 1).trans rfl
      have hcz23_2 : wc.cell? ⟨gb106, 2, none⟩ = some (.int .u8 a0_2) := (blk_cell BK106.out 2).trans rfl
      have hcz23_3 : wc.cell? ⟨gb106, 3, none⟩ = some (.int .i16 a0_3) := (blk_cell BK106.out 3).trans rfl
      have hcz23_4 : wc.cell? ⟨gb106, 4, none⟩ = some (.int .i32 a0_4) := (blk_cell BK106.out 4).trans rfl
      have hfz23_0 := blk_frozen BK106.out 0
      have hfz23_1 := blk_frozen BK106.out 1
      have hfz23_2 := blk_frozen BK106.out 2
      have hfz23_3 := blk_frozen BK106.out 3
      have hfz23_4 := blk_frozen BK106.out 4
      have hcz24_0 : wc.cell? ⟨gb107, 0, none⟩ = some (.int .u8 0) := (blk_cell BK107.out 0).trans rfl
      have hcz24_1 : wc.cell? ⟨gb107, 1, none⟩ = some (.int .u8 0) := (blk_cell BK107.out 1).trans rfl
      have hcz24_2 : wc.cell? ⟨gb107, 2, none⟩ = some (.int .u8 0) := (blk_cell BK107.out 2).trans rfl
      have hcz24_3 : wc.cell? ⟨gb107, 3, none⟩ = some (.int .i16 0) := (blk_cell BK107.out 3).trans rfl
      have hcz24_4 : wc.cell? ⟨gb107, 4, none⟩ = some (.int .i32 0) := (blk_cell BK107.out 4).trans rfl
      have hfz24_0 := blk_frozen BK107.out 0
      have hfz24_1 := blk_frozen BK107.out 1
      have hfz24_2 := blk_frozen BK107.out 2
      have hfz24_3 := blk_frozen BK107.out 3
      have hfz24_4 := blk_frozen BK107.out 4
      go_wp2
      refine bodyPost_ret (results_cell_row rfl _ _ gb107 43 #[.int .u8 a0_0, .int .u8 0, .int .u8 a0_2, .int .i16 0, .int .i32 0] (0, 0) _ rfl (by (with_reducible repeat (first | refine blk_drewN ?_ _ | refine blk_drew ?_ | refine blk_alloc ?_ _)); refine blk_put (cs := #[.int .u8 a0_0, .int .u8 0, .int .u8 a0_2, .int .i16 0, .int .i32 0]) ?_ 4 _ rfl; (with_reducible repeat (first | refine blk_drewN ?_ _ | refine blk_drew ?_ | refine blk_alloc ?_ _)); refine blk_put (cs := #[.int .u8 a0_0, .int .u8 0, .int .u8 a0_2, .int .i16 0, .int .i32 0]) ?_ 3 _ rfl; (with_reducible repeat (first | refine blk_drewN ?_ _ | refine blk_drew ?_ | refine blk_alloc ?_ _)); refine blk_put (cs := #[.int .u8 a0_0, .int .u8 0, .int .u8 0, .int .i16 0, .int .i32 0]) ?_ 2 _ rfl; (with_reducible repeat (first | refine blk_drewN ?_ _ | refine blk_drew ?_ | refine blk_alloc ?_ _)); refine blk_put (cs := #[.int .u8 a0_0, .int .u8 0, .int .u8 0, .int .i16 0, .int .i32 0]) ?_ 1 _ rfl; (with_reducible repeat (first | refine blk_drewN ?_ _ | refine blk_drew ?_ | refine blk_alloc ?_ _)); refine blk_put (cs := #[.int .u8 0, .int .u8 0, .int .u8 0, .int .i16 0, .int .i32 0]) ?_ 0 _ rfl; (with_reducible repeat (first | refine blk_drewN ?_ _ | refine blk_drew ?_ | refine blk_alloc ?_ _)); refine blk_far ?_ NB107_106.out _; (with_reducible repeat (first | refine blk_drewN ?_ _ | refine blk_drew ?_ | refine blk_alloc ?_ _)); refine blk_far ?_ NB107_106.out _; (with_reducible repeat (first | refine blk_drewN ?_ _ | refine blk_drew ?_ | refine blk_alloc ?_ _)); refine blk_far ?_ NB107_106.out _; (with_reducible repeat (first | refine blk_drewN ?_ _ | refine blk_drew ?_ | refine blk_alloc ?_ _)); exact BK107.out) Try.underlying43 rfl (by kernel_rfl)) rfl ?_
      exact ⟨by first | rfl | (simp [errW_none, errW_some] <;> rfl) | (simp [*, errW_none, errW_some] <;> rfl), by repeat (first | (with_reducible first | exact HB.out | apply below_alloc | apply pw_below_drewN | apply below_drew1 | refine below_set ?_ GE106.out | refine below_set ?_ GE107.out) | exact HB.out)⟩
     ·
      rw [if_neg c21] at H
      have c21b0 : (t108 == 2) = false := beq_eq_false_iff_ne.mpr c21
      have c21b1 : (t108 != 2) = true := bne_iff_ne.mpr c21
      have HC25 := Aside0.mk H
      clear H
      go_upto_region 9 with (fail)
      go_cut [32] (fun v32 wc => ∃ (kq : Nat) (x32_24 : Bool), v32 = .bool x32_24 ∧ Aside0 (insn_without.j1 kq x32_24 a0_0 a0_1 a0_2 a0_3 a0_4 = some (r1, r2, r3, r4, r5)) ∧ Aside0 (kq ≤ kj10) ∧ Aside0 (wc.heap[gb106]? = some (.cells #[.int .u8 a0_0, .int .u8 a0_1, .int .u8 a0_2, .int .i16 a0_3, .int .i32 a0_4] 43 (0, 0))) ∧ Aside0 (wc.heap[gb107]? = some (.cells #[.int .u8 0, .int .u8 0, .int .u8 0, .int .i16 0, .int .i32 0] 43 (0, 0))) ∧ Aside0 (Below w.heap.size w wc))
      case first =>
       have H := HC25.out
       clear HC25
       by_cases c26 : t108 = 4
       ·
        rw [if_pos c26] at H
        have c26b0 : (t108 == 4) = true := beq_iff_eq.mpr c26
        have c26b1 : (t108 != 4) = false := bne_eq_false_iff_eq.mpr c26
        clear c26
        (first | rw [c26b0] | (simp only [i64_w, i32_w]; rw [c26b0]) | skip)
        have H' := Aside0.mk H
        clear H
        go_wp2
        go_meet
        case rel => exact ⟨_, (true), (by first | rfl | (simp; done) | (simp [*]; done)), H', ⟨by have := HJ10.out; first | omega | exact Nat.le_refl _⟩, ⟨by (with_reducible repeat (first | refine blk_drewN ?_ _ | refine blk_drew ?_ | refine blk_alloc ?_ _)); exact BK106.out⟩, ⟨by (with_reducible repeat (first | refine blk_drewN ?_ _ | refine blk_drew ?_ | refine blk_alloc ?_ _)); exact BK107.out⟩, ⟨by repeat (first | (with_reducible first | exact HB.out | apply below_alloc | apply pw_below_drewN | apply below_drew1 | refine below_set ?_ GE106.out | refine below_set ?_ GE107.out) | exact HB.out)⟩⟩
       ·
        rw [if_neg c26] at H
        have c26b0 : (t108 == 4) = false := beq_eq_false_iff_ne.mpr c26
        have c26b1 : (t108 != 4) = true := bne_iff_ne.mpr c26
        (first | rw [c26b0] | (simp only [i64_w, i32_w]; rw [c26b0]) | skip)
        have H' := Aside0.mk H
        clear H
        go_wp2
        go_meet
        case rel => exact ⟨_, ((t108 == 7)), (by first | rfl | (simp; done) | (simp [*]; done)), H', ⟨by have := HJ10.out; first | omega | exact Nat.le_refl _⟩, ⟨by (with_reducible repeat (first | refine blk_drewN ?_ _ | refine blk_drew ?_ | refine blk_alloc ?_ _)); exact BK106.out⟩, ⟨by (with_reducible repeat (first | refine blk_drewN ?_ _ | refine blk_drew ?_ | refine blk_alloc ?_ _)); exact BK107.out⟩, ⟨by repeat (first | (with_reducible first | exact HB.out | apply below_alloc | apply pw_below_drewN | apply below_drew1 | refine below_set ?_ GE106.out | refine below_set ?_ GE107.out) | exact HB.out)⟩⟩
      case rest =>
       clear HC25
       try clear c1; try clear c2; try clear p2; try clear c3; try clear c3b0; try clear c3b1; try clear c4; try clear c6; try clear c14; try clear c16; try clear c16b0; try clear c16b1; try clear c17; try clear c18; try clear c21; try clear c21b0; try clear c21b1; try clear c22; try clear c26; try clear c26b0; try clear c26b1; try clear hcz10_0; try clear hcz10_1; try clear hcz10_2; try clear hcz10_3; try clear hcz10_4; try clear hcz15_0; try clear hcz15_1; try clear hcz15_2; try clear hcz15_3; try clear hcz15_4; try clear hcz19_0; try clear hcz19_1; try clear hcz19_2; try clear hcz19_3; try clear hcz19_4; try clear hcz20_0; try clear hcz20_1; try clear hcz20_2; try clear hcz20_3; try clear hcz20_4; try clear hcz23_0; try clear hcz23_1; try clear hcz23_2; try clear hcz23_3; try clear hcz23_4; try clear hcz24_0; try clear hcz24_1; try clear hcz24_2; try clear hcz24_3; try clear hcz24_4; try clear hcz7_0; try clear hcz7_1; try clear hcz7_2; try clear hcz7_3; try clear hcz7_4; try clear hfz10_0; try clear hfz10_1; try clear hfz10_2; try clear hfz10_3; try clear hfz10_4; try clear hfz15_0; try clear hfz15_1; try clear hfz15_2; try clear hfz15_3; try clear hfz15_4; try clear hfz19_0; try clear hfz19_1; try clear hfz19_2; try clear hfz19_3; try clear hfz19_4; try clear hfz20_0; try clear hfz20_1; try clear hfz20_2; try clear hfz20_3; try clear hfz20_4; try clear hfz23_0; try clear hfz23_1; try clear hfz23_2; try clear hfz23_3; try clear hfz23_4; try clear hfz24_0; try clear hfz24_1; try clear hfz24_2; try clear hfz24_3; try clear hfz24_4; try clear hfz7_0; try clear hfz7_1; try clear hfz7_2; try clear hfz7_3; try clear hfz7_4
       obtain ⟨kq, x32_24, rfl, HA, HJ24, BK106, BK107, HB⟩ := hcut
       cases kq with
       | zero => exact absurd HA.out (by simp [insn_without.j1])
       | succ kj24 =>
        have H := HA.out
        clear HA
        simp only [insn_without.j1] at H
        by_cases c27 : x32_24 = true
        ·
         subst c27
         have H1 : ((insn_Kind.f a0_0).bind fun t109 => (if t109 = 128 then (some (a0_0, 0, a0_2, a0_3, a0_4)) else ((insn_ByReg.f a0_0).bind fun t110 => (if t110 = true then (some (a0_0, 0, 0, a0_3, a0_4)) else (some (a0_0, 0, a0_2, a0_3, 0)))))) = some (r1, r2, r3, r4, r5) := by rw [if_pos rfl] at H; exact H
         clear H
         have H := H1
         clear H1
         replace H := Option.bind_eq_some_iff.mp H
         obtain ⟨t109, A280, H⟩ := H
         replace H : (if t109 = 128 then (some (a0_0, 0, a0_2, a0_3, a0_4)) else ((insn_ByReg.f a0_0).bind fun t110 => (if t110 = true then (some (a0_0, 0, 0, a0_3, a0_4)) else (some (a0_0, 0, a0_2, a0_3, 0))))) = some (r1, r2, r3, r4, r5) := H
         have A28 := Aside0.mk A280
         clear A280
         by_cases c29 : t109 = 128
         ·
          rw [if_pos c29] at H
          have c29b0 : (t109 == 128) = true := beq_iff_eq.mpr c29
          have c29b1 : (t109 != 128) = false := bne_eq_false_iff_eq.mpr c29
          clear c29
          simp only [Option.some.injEq, Prod.mk.injEq] at H
          obtain ⟨rfl, rfl, rfl, rfl, rfl⟩ := H
          have hnb30 := NB106_107.out
          have hnc30 := NB107_106.out
          have hcz31_0 : wc.cell? ⟨gb106, 0, none⟩ = some (.int .u8 a0_0) := (blk_cell BK106.out 0).trans rfl
          have hcz31_1 : wc.cell? ⟨gb106, 1, none⟩ = some (.int .u8 a0_1) := (blk_cell BK106.out 1).trans rfl
          have hcz31_2 : wc.cell? ⟨gb106, 2, none⟩ = some (.int .u8 a0_2) := (blk_cell BK106.out 2).trans rfl
          have hcz31_3 : wc.cell? ⟨gb106, 3, none⟩ = some (.int .i16 a0_3) := (blk_cell BK106.out 3).trans rfl
          have hcz31_4 : wc.cell? ⟨gb106, 4, none⟩ = some (.int .i32 a0_4) := (blk_cell BK106.out 4).trans rfl
          have hfz31_0 := blk_frozen BK106.out 0
          have hfz31_1 := blk_frozen BK106.out 1
          have hfz31_2 := blk_frozen BK106.out 2
          have hfz31_3 := blk_frozen BK106.out 3
          have hfz31_4 := blk_frozen BK106.out 4
          go_wp2_with (first | ((with_reducible refine gate_callee (f := 50) rfl ?_); refine goesL_ (some 44) rfl rfl Try.func50 (by kernel_rfl) rfl #[.int .u8 a0_0] rfl (by (try simp only [List.map_toArray, List.map_cons, List.map_nil]); first | done | rfl | (simp only [List.length_drop, List.length_take]; rfl)) ?_; (with_reducible refine (insn_Kind.calls a0_0 t109 _ A28.out).mono ?_); rintro e w' ⟨rfl, ⟨nd, rfl⟩⟩; refine ⟨_, rfl, ?_⟩; have hcz32_0 : wc.cell? ⟨gb107, 0, none⟩ = some (.int .u8 0) := (blk_cell BK107.out 0).trans rfl; have hcz32_1 : wc.cell? ⟨gb107, 1, none⟩ = some (.int .u8 0) := (blk_cell BK107.out 1).trans rfl; have hcz32_2 : wc.cell? ⟨gb107, 2, none⟩ = some (.int .u8 0) := (blk_cell BK107.out 2).trans rfl; have hcz32_3 : wc.cell? ⟨gb107, 3, none⟩ = some (.int .i16 0) := (blk_cell BK107.out 3).trans rfl; have hcz32_4 : wc.cell? ⟨gb107, 4, none⟩ = some (.int .i32 0) := (blk_cell BK107.out 4).trans rfl; have hfz32_0 := blk_frozen BK107.out 0; have hfz32_1 := blk_frozen BK107.out 1; have hfz32_2 := blk_frozen BK107.out 2; have hfz32_3 := blk_frozen BK107.out 3; have hfz32_4 := blk_frozen BK107.out 4))
          refine bodyPost_ret (results_cell_row rfl _ _ gb107 43 #[.int .u8 a0_0, .int .u8 0, .int .u8 a0_2, .int .i16 a0_3, .int .i32 a0_4] (0, 0) _ rfl (by (with_reducible repeat (first | refine blk_drewN ?_ _ | refine blk_drew ?_ | refine blk_alloc ?_ _)); refine blk_put (cs := #[.int .u8 a0_0, .int .u8 0, .int .u8 a0_2, .int .i16 a0_3, .int .i32 0]) ?_ 4 _ rfl; (with_reducible repeat (first | refine blk_drewN ?_ _ | refine blk_drew ?_ | refine blk_alloc ?_ _)); refine blk_put (cs := #[.int .u8 a0_0, .int .u8 0, .int .u8 a0_2, .int .i16 0, .int .i32 0]) ?_ 3 _ rfl; (with_reducible repeat (first | refine blk_drewN ?_ _ | refine blk_drew ?_ | refine blk_alloc ?_ _)); refine blk_put (cs := #[.int .u8 a0_0, .int .u8 0, .int .u8 0, .int .i16 0, .int .i32 0]) ?_ 2 _ rfl; (with_reducible repeat (first | refine blk_drewN ?_ _ | refine blk_drew ?_ | refine blk_alloc ?_ _)); refine blk_put (cs := #[.int .u8 a0_0, .int .u8 0, .int .u8 0, .int .i16 0, .int .i32 0]) ?_ 1 _ rfl; (with_reducible repeat (first | refine blk_drewN ?_ _ | refine blk_drew ?_ | refine blk_alloc ?_ _)); refine blk_put (cs := #[.int .u8 0, .int .u8 0, .int .u8 0, .int .i16 0, .int .i32 0]) ?_ 0 _ rfl; (with_reducible repeat (first | refine blk_drewN ?_ _ | refine blk_drew ?_ | refine blk_alloc ?_ _)); refine blk_far ?_ NB107_106.out _; (with_reducible repeat (first | refine blk_drewN ?_ _ | refine blk_drew ?_ | refine blk_alloc ?_ _)); exact BK107.out) Try.underlying43 rfl (by kernel_rfl)) rfl ?_
          exact ⟨by first | rfl | (simp [errW_none, errW_some] <;> rfl) | (simp [*, errW_none, errW_some] <;> rfl), by repeat (first | (with_reducible first | exact HB.out | apply below_alloc | apply pw_below_drewN | apply below_drew1 | refine below_set ?_ GE106.out | refine below_set ?_ GE107.out) | exact HB.out)⟩
         ·
          rw [if_neg c29] at H
          have c29b0 : (t109 == 128) = false := beq_eq_false_iff_ne.mpr c29
          have c29b1 : (t109 != 128) = true := bne_iff_ne.mpr c29
          replace H := Option.bind_eq_some_iff.mp H
          obtain ⟨t110, A330, H⟩ := H
          replace H : (if t110 = true then (some (a0_0, 0, 0, a0_3, a0_4)) else (some (a0_0, 0, a0_2, a0_3, 0))) = some (r1, r2, r3, r4, r5) := H
          have A33 := Aside0.mk A330
          clear A330
          by_cases c34 : t110 = true
          ·
           subst c34
           have H1 : (some (a0_0, 0, 0, a0_3, a0_4)) = some (r1, r2, r3, r4, r5) := by rw [if_pos rfl] at H; exact H
           clear H
           have H := H1
           clear H1
           simp only [Option.some.injEq, Prod.mk.injEq] at H
           obtain ⟨rfl, rfl, rfl, rfl, rfl⟩ := H
           have hnb35 := NB106_107.out
           have hnc35 := NB107_106.out
           have hcz36_0 : wc.cell? ⟨gb106, 0, none⟩ = some (.int .u8 a0_0) := (blk_cell BK106.out 0).trans rfl
           have hcz36_1 : wc.cell? ⟨gb106, 1, none⟩ = some (.int .u8 a0_1) := (blk_cell BK106.out 1).trans rfl
           have hcz36_2 : wc.cell? ⟨gb106, 2, none⟩ = some (.int .u8 a0_2) := (blk_cell BK106.out 2).trans rfl
           have hcz36_3 : wc.cell? ⟨gb106, 3, none⟩ = some (.int .i16 a0_3) := (blk_cell BK106.out 3).trans rfl
           have hcz36_4 : wc.cell? ⟨gb106, 4, none⟩ = some (.int .i32 a0_4) := (blk_cell BK106.out 4).trans rfl
           have hfz36_0 := blk_frozen BK106.out 0
           have hfz36_1 := blk_frozen BK106.out 1
           have hfz36_2 := blk_frozen BK106.out 2
           have hfz36_3 := blk_frozen BK106.out 3
           have hfz36_4 := blk_frozen BK106.out 4
           go_wp2_with (first | ((with_reducible refine gate_callee (f := 50) rfl ?_); refine goesL_ (some 44) rfl rfl Try.func50 (by kernel_rfl) rfl #[.int .u8 a0_0] rfl (by (try simp only [List.map_toArray, List.map_cons, List.map_nil]); first | done | rfl | (simp only [List.length_drop, List.length_take]; rfl)) ?_; (with_reducible refine (insn_Kind.calls a0_0 t109 _ A28.out).mono ?_); rintro e w' ⟨rfl, ⟨nd, rfl⟩⟩; refine ⟨_, rfl, ?_⟩) | ((with_reducible refine gate_callee (f := 49) rfl ?_); refine goesL_ (some 49) rfl rfl Try.func49 (by kernel_rfl) rfl #[.int .u8 a0_0] rfl (by (try simp only [List.map_toArray, List.map_cons, List.map_nil]); first | done | rfl | (simp only [List.length_drop, List.length_take]; rfl)) ?_; (with_reducible refine (insn_ByReg.calls a0_0 true _ A33.out).mono ?_); rintro e w' ⟨rfl, ⟨nd, rfl⟩⟩; refine ⟨_, rfl, ?_⟩; have hcz37_0 : wc.cell? ⟨gb107, 0, none⟩ = some (.int .u8 0) := (blk_cell BK107.out 0).trans rfl; have hcz37_1 : wc.cell? ⟨gb107, 1, none⟩ = some (.int .u8 0) := (blk_cell BK107.out 1).trans rfl; have hcz37_2 : wc.cell? ⟨gb107, 2, none⟩ = some (.int .u8 0) := (blk_cell BK107.out 2).trans rfl; have hcz37_3 : wc.cell? ⟨gb107, 3, none⟩ = some (.int .i16 0) := (blk_cell BK107.out 3).trans rfl; have hcz37_4 : wc.cell? ⟨gb107, 4, none⟩ = some (.int .i32 0) := (blk_cell BK107.out 4).trans rfl; have hfz37_0 := blk_frozen BK107.out 0; have hfz37_1 := blk_frozen BK107.out 1; have hfz37_2 := blk_frozen BK107.out 2; have hfz37_3 := blk_frozen BK107.out 3; have hfz37_4 := blk_frozen BK107.out 4))
           refine bodyPost_ret (results_cell_row rfl _ _ gb107 43 #[.int .u8 a0_0, .int .u8 0, .int .u8 0, .int .i16 a0_3, .int .i32 a0_4] (0, 0) _ rfl (by (with_reducible repeat (first | refine blk_drewN ?_ _ | refine blk_drew ?_ | refine blk_alloc ?_ _)); refine blk_put (cs := #[.int .u8 a0_0, .int .u8 0, .int .u8 0, .int .i16 a0_3, .int .i32 0]) ?_ 4 _ rfl; (with_reducible repeat (first | refine blk_drewN ?_ _ | refine blk_drew ?_ | refine blk_alloc ?_ _)); refine blk_put (cs := #[.int .u8 a0_0, .int .u8 0, .int .u8 0, .int .i16 0, .int .i32 0]) ?_ 3 _ rfl; (with_reducible repeat (first | refine blk_drewN ?_ _ | refine blk_drew ?_ | refine blk_alloc ?_ _)); refine blk_put (cs := #[.int .u8 a0_0, .int .u8 0, .int .u8 0, .int .i16 0, .int .i32 0]) ?_ 2 _ rfl; (with_reducible repeat (first | refine blk_drewN ?_ _ | refine blk_drew ?_ | refine blk_alloc ?_ _)); refine blk_put (cs := #[.int .u8 a0_0, .int .u8 0, .int .u8 0, .int .i16 0, .int .i32 0]) ?_ 1 _ rfl; (with_reducible repeat (first | refine blk_drewN ?_ _ | refine blk_drew ?_ | refine blk_alloc ?_ _)); refine blk_put (cs := #[.int .u8 0, .int .u8 0, .int .u8 0, .int .i16 0, .int .i32 0]) ?_ 0 _ rfl; (with_reducible repeat (first | refine blk_drewN ?_ _ | refine blk_drew ?_ | refine blk_alloc ?_ _)); refine blk_far ?_ NB107_106.out _; (with_reducible repeat (first | refine blk_drewN ?_ _ | refine blk_drew ?_ | refine blk_alloc ?_ _)); refine blk_far ?_ NB107_106.out _; (with_reducible repeat (first | refine blk_drewN ?_ _ | refine blk_drew ?_ | refine blk_alloc ?_ _)); exact BK107.out) Try.underlying43 rfl (by kernel_rfl)) rfl ?_
           exact ⟨by first | rfl | (simp [errW_none, errW_some] <;> rfl) | (simp [*, errW_none, errW_some] <;> rfl), by repeat (first | (with_reducible first | exact HB.out | apply below_alloc | apply pw_below_drewN | apply below_drew1 | refine below_set ?_ GE106.out | refine below_set ?_ GE107.out) | exact HB.out)⟩
          ·
           replace c34 := Bool.eq_false_iff.mpr c34
           subst c34
           have H1 : (some (a0_0, 0, a0_2, a0_3, 0)) = some (r1, r2, r3, r4, r5) := by rw [if_neg (show ¬ (false = true) by decide)] at H; exact H
           clear H
           have H := H1
           clear H1
           simp only [Option.some.injEq, Prod.mk.injEq] at H
           obtain ⟨rfl, rfl, rfl, rfl, rfl⟩ := H
           have hnb38 := NB106_107.out
           have hnc38 := NB107_106.out
           have hcz39_0 : wc.cell? ⟨gb106, 0, none⟩ = some (.int .u8 a0_0) := (blk_cell BK106.out 0).trans rfl
           have hcz39_1 : wc.cell? ⟨gb106, 1, none⟩ = some (.int .u8 a0_1) := (blk_cell BK106.out 1).trans rfl
           have hcz39_2 : wc.cell? ⟨gb106, 2, none⟩ = some (.int .u8 a0_2) := (blk_cell BK106.out 2).trans rfl
           have hcz39_3 : wc.cell? ⟨gb106, 3, none⟩ = some (.int .i16 a0_3) := (blk_cell BK106.out 3).trans rfl
           have hcz39_4 : wc.cell? ⟨gb106, 4, none⟩ = some (.int .i32 a0_4) := (blk_cell BK106.out 4).trans rfl
           have hfz39_0 := blk_frozen BK106.out 0
           have hfz39_1 := blk_frozen BK106.out 1
           have hfz39_2 := blk_frozen BK106.out 2
           have hfz39_3 := blk_frozen BK106.out 3
           have hfz39_4 := blk_frozen BK106.out 4
           go_wp2_with (first | ((with_reducible refine gate_callee (f := 50) rfl ?_); refine goesL_ (some 44) rfl rfl Try.func50 (by kernel_rfl) rfl #[.int .u8 a0_0] rfl (by (try simp only [List.map_toArray, List.map_cons, List.map_nil]); first | done | rfl | (simp only [List.length_drop, List.length_take]; rfl)) ?_; (with_reducible refine (insn_Kind.calls a0_0 t109 _ A28.out).mono ?_); rintro e w' ⟨rfl, ⟨nd, rfl⟩⟩; refine ⟨_, rfl, ?_⟩) | ((with_reducible refine gate_callee (f := 49) rfl ?_); refine goesL_ (some 49) rfl rfl Try.func49 (by kernel_rfl) rfl #[.int .u8 a0_0] rfl (by (try simp only [List.map_toArray, List.map_cons, List.map_nil]); first | done | rfl | (simp only [List.length_drop, List.length_take]; rfl)) ?_; (with_reducible refine (insn_ByReg.calls a0_0 false _ A33.out).mono ?_); rintro e w' ⟨rfl, ⟨nd, rfl⟩⟩; refine ⟨_, rfl, ?_⟩; have hcz40_0 : wc.cell? ⟨gb107, 0, none⟩ = some (.int .u8 0) := (blk_cell BK107.out 0).trans rfl; have hcz40_1 : wc.cell? ⟨gb107, 1, none⟩ = some (.int .u8 0) := (blk_cell BK107.out 1).trans rfl; have hcz40_2 : wc.cell? ⟨gb107, 2, none⟩ = some (.int .u8 0) := (blk_cell BK107.out 2).trans rfl; have hcz40_3 : wc.cell? ⟨gb107, 3, none⟩ = some (.int .i16 0) := (blk_cell BK107.out 3).trans rfl; have hcz40_4 : wc.cell? ⟨gb107, 4, none⟩ = some (.int .i32 0) := (blk_cell BK107.out 4).trans rfl; have hfz40_0 := blk_frozen BK107.out 0; have hfz40_1 := blk_frozen BK107.out 1; have hfz40_2 := blk_frozen BK107.out 2; have hfz40_3 := blk_frozen BK107.out 3; have hfz40_4 := blk_frozen BK107.out 4))
           refine bodyPost_ret (results_cell_row rfl _ _ gb107 43 #[.int .u8 a0_0, .int .u8 0, .int .u8 a0_2, .int .i16 a0_3, .int .i32 0] (0, 0) _ rfl (by (with_reducible repeat (first | refine blk_drewN ?_ _ | refine blk_drew ?_ | refine blk_alloc ?_ _)); refine blk_put (cs := #[.int .u8 a0_0, .int .u8 0, .int .u8 a0_2, .int .i16 a0_3, .int .i32 0]) ?_ 4 _ rfl; (with_reducible repeat (first | refine blk_drewN ?_ _ | refine blk_drew ?_ | refine blk_alloc ?_ _)); refine blk_put (cs := #[.int .u8 a0_0, .int .u8 0, .int .u8 a0_2, .int .i16 0, .int .i32 0]) ?_ 3 _ rfl; (with_reducible repeat (first | refine blk_drewN ?_ _ | refine blk_drew ?_ | refine blk_alloc ?_ _)); refine blk_put (cs := #[.int .u8 a0_0, .int .u8 0, .int .u8 0, .int .i16 0, .int .i32 0]) ?_ 2 _ rfl; (with_reducible repeat (first | refine blk_drewN ?_ _ | refine blk_drew ?_ | refine blk_alloc ?_ _)); refine blk_put (cs := #[.int .u8 a0_0, .int .u8 0, .int .u8 0, .int .i16 0, .int .i32 0]) ?_ 1 _ rfl; (with_reducible repeat (first | refine blk_drewN ?_ _ | refine blk_drew ?_ | refine blk_alloc ?_ _)); refine blk_put (cs := #[.int .u8 0, .int .u8 0, .int .u8 0, .int .i16 0, .int .i32 0]) ?_ 0 _ rfl; (with_reducible repeat (first | refine blk_drewN ?_ _ | refine blk_drew ?_ | refine blk_alloc ?_ _)); refine blk_far ?_ NB107_106.out _; (with_reducible repeat (first | refine blk_drewN ?_ _ | refine blk_drew ?_ | refine blk_alloc ?_ _)); refine blk_far ?_ NB107_106.out _; (with_reducible repeat (first | refine blk_drewN ?_ _ | refine blk_drew ?_ | refine blk_alloc ?_ _)); exact BK107.out) Try.underlying43 rfl (by kernel_rfl)) rfl ?_
           exact ⟨by first | rfl | (simp [errW_none, errW_some] <;> rfl) | (simp [*, errW_none, errW_some] <;> rfl), by repeat (first | (with_reducible first | exact HB.out | apply below_alloc | apply pw_below_drewN | apply below_drew1 | refine below_set ?_ GE106.out | refine below_set ?_ GE107.out) | exact HB.out)⟩
        ·
         replace c27 := Bool.eq_false_iff.mpr c27
         subst c27
         have H1 : (if a0_0 = 5 then (some (a0_0, a0_1, a0_2, 0, a0_4)) else (if a0_0 = 133 then (some (a0_0, a0_1, 0, a0_3, 0)) else (if a0_0 = 149 then (some (a0_0, a0_1, a0_2, a0_3, a0_4)) else ((insn_ByReg.f a0_0).bind fun t111 => (if t111 = true then (some (a0_0, 0, 0, 0, a0_4)) else (some (a0_0, 0, a0_2, 0, 0))))))) = some (r1, r2, r3, r4, r5) := by rw [if_neg (show ¬ (false = true) by decide)] at H; exact H
         clear H
         have H := H1
         clear H1
         by_cases c41 : a0_0 = 5
         ·
          rw [if_pos c41] at H
          have c41b0 : (a0_0 == 5) = true := beq_iff_eq.mpr c41
          have c41b1 : (a0_0 != 5) = false := bne_eq_false_iff_eq.mpr c41
          clear c41
          simp only [Option.some.injEq, Prod.mk.injEq] at H
          obtain ⟨rfl, rfl, rfl, rfl, rfl⟩ := H
          have hnb42 := NB106_107.out
          have hnc42 := NB107_106.out
          have hcz43_0 : wc.cell? ⟨gb106, 0, none⟩ = some (.int .u8 a0_0) := (blk_cell BK106.out 0).trans rfl
          have hcz43_1 : wc.cell? ⟨gb106, 1, none⟩ = some (.int .u8 a0_1) := (blk_cell BK106.out 1).trans rfl
          have hcz43_2 : wc.cell? ⟨gb106, 2, none⟩ = some (.int .u8 a0_2) := (blk_cell BK106.out 2).trans rfl
          have hcz43_3 : wc.cell? ⟨gb106, 3, none⟩ = some (.int .i16 a0_3) := (blk_cell BK106.out 3).trans rfl
          have hcz43_4 : wc.cell? ⟨gb106, 4, none⟩ = some (.int .i32 a0_4) := (blk_cell BK106.out 4).trans rfl
          have hfz43_0 := blk_frozen BK106.out 0
          have hfz43_1 := blk_frozen BK106.out 1
          have hfz43_2 := blk_frozen BK106.out 2
          have hfz43_3 := blk_frozen BK106.out 3
          have hfz43_4 := blk_frozen BK106.out 4
          have hcz44_0 : wc.cell? ⟨gb107, 0, none⟩ = some (.int .u8 0) := (blk_cell BK107.out 0).trans rfl
          have hcz44_1 : wc.cell? ⟨gb107, 1, none⟩ = some (.int .u8 0) := (blk_cell BK107.out 1).trans rfl
          have hcz44_2 : wc.cell? ⟨gb107, 2, none⟩ = some (.int .u8 0) := (blk_cell BK107.out 2).trans rfl
          have hcz44_3 : wc.cell? ⟨gb107, 3, none⟩ = some (.int .i16 0) := (blk_cell BK107.out 3).trans rfl
          have hcz44_4 : wc.cell? ⟨gb107, 4, none⟩ = some (.int .i32 0) := (blk_cell BK107.out 4).trans rfl
          have hfz44_0 := blk_frozen BK107.out 0
          have hfz44_1 := blk_frozen BK107.out 1
          have hfz44_2 := blk_frozen BK107.out 2
          have hfz44_3 := blk_frozen BK107.out 3
          have hfz44_4 := blk_frozen BK107.out 4
          go_wp2
          refine bodyPost_ret (results_cell_row rfl _ _ gb107 43 #[.int .u8 a0_0, .int .u8 a0_1, .int .u8 a0_2, .int .i16 0, .int .i32 a0_4] (0, 0) _ rfl (by (with_reducible repeat (first | refine blk_drewN ?_ _ | refine blk_drew ?_ | refine blk_alloc ?_ _)); refine blk_put (cs := #[.int .u8 a0_0, .int .u8 a0_1, .int .u8 a0_2, .int .i16 0, .int .i32 0]) ?_ 4 _ rfl; (with_reducible repeat (first | refine blk_drewN ?_ _ | refine blk_drew ?_ | refine blk_alloc ?_ _)); refine blk_put (cs := #[.int .u8 a0_0, .int .u8 a0_1, .int .u8 a0_2, .int .i16 0, .int .i32 0]) ?_ 3 _ rfl; (with_reducible repeat (first | refine blk_drewN ?_ _ | refine blk_drew ?_ | refine blk_alloc ?_ _)); refine blk_put (cs := #[.int .u8 a0_0, .int .u8 a0_1, .int .u8 0, .int .i16 0, .int .i32 0]) ?_ 2 _ rfl; (with_reducible repeat (first | refine blk_drewN ?_ _ | refine blk_drew ?_ | refine blk_alloc ?_ _)); refine blk_put (cs := #[.int .u8 a0_0, .int .u8 0, .int .u8 0, .int .i16 0, .int .i32 0]) ?_ 1 _ rfl; (with_reducible repeat (first | refine blk_drewN ?_ _ | refine blk_drew ?_ | refine blk_alloc ?_ _)); refine blk_put (cs := #[.int .u8 0, .int .u8 0, .int .u8 0, .int .i16 0, .int .i32 0]) ?_ 0 _ rfl; (with_reducible repeat (first | refine blk_drewN ?_ _ | refine blk_drew ?_ | refine blk_alloc ?_ _)); refine blk_far ?_ NB107_106.out _; (with_reducible repeat (first | refine blk_drewN ?_ _ | refine blk_drew ?_ | refine blk_alloc ?_ _)); exact BK107.out) Try.underlying43 rfl (by kernel_rfl)) rfl ?_
          exact ⟨by first | rfl | (simp [errW_none, errW_some] <;> rfl) | (simp [*, errW_none, errW_some] <;> rfl), by repeat (first | (with_reducible first | exact HB.out | apply below_alloc | apply pw_below_drewN | apply below_drew1 | refine below_set ?_ GE106.out | refine below_set ?_ GE107.out) | exact HB.out)⟩
         ·
          rw [if_neg c41] at H
          have c41b0 : (a0_0 == 5) = false := beq_eq_false_iff_ne.mpr c41
          have c41b1 : (a0_0 != 5) = true := bne_iff_ne.mpr c41
          by_cases c45 : a0_0 = 133
          ·
           rw [if_pos c45] at H
           have c45b0 : (a0_0 == 133) = true := beq_iff_eq.mpr c45
           have c45b1 : (a0_0 != 133) = false := bne_eq_false_iff_eq.mpr c45
           clear c45
           simp only [Option.some.injEq, Prod.mk.injEq] at H
           obtain ⟨rfl, rfl, rfl, rfl, rfl⟩ := H
           have hnb46 := NB106_107.out
           have hnc46 := NB107_106.out
           have hcz47_0 : wc.cell? ⟨gb106, 0, none⟩ = some (.int .u8 a0_0) := (blk_cell BK106.out 0).trans rfl
           have hcz47_1 : wc.cell? ⟨gb106, 1, none⟩ = some (.int .u8 a0_1) := (blk_cell BK106.out 1).trans rfl
           have hcz47_2 : wc.cell? ⟨gb106, 2, none⟩ = some (.int .u8 a0_2) := (blk_cell BK106.out 2).trans rfl
           have hcz47_3 : wc.cell? ⟨gb106, 3, none⟩ = some (.int .i16 a0_3) := (blk_cell BK106.out 3).trans rfl
           have hcz47_4 : wc.cell? ⟨gb106, 4, none⟩ = some (.int .i32 a0_4) := (blk_cell BK106.out 4).trans rfl
           have hfz47_0 := blk_frozen BK106.out 0
           have hfz47_1 := blk_frozen BK106.out 1
           have hfz47_2 := blk_frozen BK106.out 2
           have hfz47_3 := blk_frozen BK106.out 3
           have hfz47_4 := blk_frozen BK106.out 4
           have hcz48_0 : wc.cell? ⟨gb107, 0, none⟩ = some (.int .u8 0) := (blk_cell BK107.out 0).trans rfl
           have hcz48_1 : wc.cell? ⟨gb107, 1, none⟩ = some (.int .u8 0) := (blk_cell BK107.out 1).trans rfl
           have hcz48_2 : wc.cell? ⟨gb107, 2, none⟩ = some (.int .u8 0) := (blk_cell BK107.out 2).trans rfl
           have hcz48_3 : wc.cell? ⟨gb107, 3, none⟩ = some (.int .i16 0) := (blk_cell BK107.out 3).trans rfl
           have hcz48_4 : wc.cell? ⟨gb107, 4, none⟩ = some (.int .i32 0) := (blk_cell BK107.out 4).trans rfl
           have hfz48_0 := blk_frozen BK107.out 0
           have hfz48_1 := blk_frozen BK107.out 1
           have hfz48_2 := blk_frozen BK107.out 2
           have hfz48_3 := blk_frozen BK107.out 3
           have hfz48_4 := blk_frozen BK107.out 4
           go_wp2
           refine bodyPost_ret (results_cell_row rfl _ _ gb107 43 #[.int .u8 a0_0, .int .u8 a0_1, .int .u8 0, .int .i16 a0_3, .int .i32 0] (0, 0) _ rfl (by (with_reducible repeat (first | refine blk_drewN ?_ _ | refine blk_drew ?_ | refine blk_alloc ?_ _)); refine blk_put (cs := #[.int .u8 a0_0, .int .u8 a0_1, .int .u8 0, .int .i16 a0_3, .int .i32 0]) ?_ 4 _ rfl; (with_reducible repeat (first | refine blk_drewN ?_ _ | refine blk_drew ?_ | refine blk_alloc ?_ _)); refine blk_put (cs := #[.int .u8 a0_0, .int .u8 a0_1, .int .u8 0, .int .i16 0, .int .i32 0]) ?_ 3 _ rfl; (with_reducible repeat (first | refine blk_drewN ?_ _ | refine blk_drew ?_ | refine blk_alloc ?_ _)); refine blk_put (cs := #[.int .u8 a0_0, .int .u8 a0_1, .int .u8 0, .int .i16 0, .int .i32 0]) ?_ 2 _ rfl; (with_reducible repeat (first | refine blk_drewN ?_ _ | refine blk_drew ?_ | refine blk_alloc ?_ _)); refine blk_put (cs := #[.int .u8 a0_0, .int .u8 0, .int .u8 0, .int .i16 0, .int .i32 0]) ?_ 1 _ rfl; (with_reducible repeat (first | refine blk_drewN ?_ _ | refine blk_drew ?_ | refine blk_alloc ?_ _)); refine blk_put (cs := #[.int .u8 0, .int .u8 0, .int .u8 0, .int .i16 0, .int .i32 0]) ?_ 0 _ rfl; (with_reducible repeat (first | refine blk_drewN ?_ _ | refine blk_drew ?_ | refine blk_alloc ?_ _)); refine blk_far ?_ NB107_106.out _; (with_reducible repeat (first | refine blk_drewN ?_ _ | refine blk_drew ?_ | refine blk_alloc ?_ _)); refine blk_far ?_ NB107_106.out _; (with_reducible repeat (first | refine blk_drewN ?_ _ | refine blk_drew ?_ | refine blk_alloc ?_ _)); exact BK107.out) Try.underlying43 rfl (by kernel_rfl)) rfl ?_
           exact ⟨by first | rfl | (simp [errW_none, errW_some] <;> rfl) | (simp [*, errW_none, errW_some] <;> rfl), by repeat (first | (with_reducible first | exact HB.out | apply below_alloc | apply pw_below_drewN | apply below_drew1 | refine below_set ?_ GE106.out | refine below_set ?_ GE107.out) | exact HB.out)⟩
          ·
           rw [if_neg c45] at H
           have c45b0 : (a0_0 == 133) = false := beq_eq_false_iff_ne.mpr c45
           have c45b1 : (a0_0 != 133) = true := bne_iff_ne.mpr c45
           by_cases c49 : a0_0 = 149
           ·
            rw [if_pos c49] at H
            have c49b0 : (a0_0 == 149) = true := beq_iff_eq.mpr c49
            have c49b1 : (a0_0 != 149) = false := bne_eq_false_iff_eq.mpr c49
            clear c49
            simp only [Option.some.injEq, Prod.mk.injEq] at H
            obtain ⟨rfl, rfl, rfl, rfl, rfl⟩ := H
            have hnb50 := NB106_107.out
            have hnc50 := NB107_106.out
            have hcz51_0 : wc.cell? ⟨gb106, 0, none⟩ = some (.int .u8 a0_0) := (blk_cell BK106.out 0).trans rfl
            have hcz51_1 : wc.cell? ⟨gb106, 1, none⟩ = some (.int .u8 a0_1) := (blk_cell BK106.out 1).trans rfl
            have hcz51_2 : wc.cell? ⟨gb106, 2, none⟩ = some (.int .u8 a0_2) := (blk_cell BK106.out 2).trans rfl
            have hcz51_3 : wc.cell? ⟨gb106, 3, none⟩ = some (.int .i16 a0_3) := (blk_cell BK106.out 3).trans rfl
            have hcz51_4 : wc.cell? ⟨gb106, 4, none⟩ = some (.int .i32 a0_4) := (blk_cell BK106.out 4).trans rfl
            have hfz51_0 := blk_frozen BK106.out 0
            have hfz51_1 := blk_frozen BK106.out 1
            have hfz51_2 := blk_frozen BK106.out 2
            have hfz51_3 := blk_frozen BK106.out 3
            have hfz51_4 := blk_frozen BK106.out 4
            have hcz52_0 : wc.cell? ⟨gb107, 0, none⟩ = some (.int .u8 0) := (blk_cell BK107.out 0).trans rfl
            have hcz52_1 : wc.cell? ⟨gb107, 1, none⟩ = some (.int .u8 0) := (blk_cell BK107.out 1).trans rfl
            have hcz52_2 : wc.cell? ⟨gb107, 2, none⟩ = some (.int .u8 0) := (blk_cell BK107.out 2).trans rfl
            have hcz52_3 : wc.cell? ⟨gb107, 3, none⟩ = some (.int .i16 0) := (blk_cell BK107.out 3).trans rfl
            have hcz52_4 : wc.cell? ⟨gb107, 4, none⟩ = some (.int .i32 0) := (blk_cell BK107.out 4).trans rfl
            have hfz52_0 := blk_frozen BK107.out 0
            have hfz52_1 := blk_frozen BK107.out 1
            have hfz52_2 := blk_frozen BK107.out 2
            have hfz52_3 := blk_frozen BK107.out 3
            have hfz52_4 := blk_frozen BK107.out 4
            go_wp2
            refine bodyPost_ret (results_cell_row rfl _ _ gb107 43 #[.int .u8 a0_0, .int .u8 a0_1, .int .u8 a0_2, .int .i16 a0_3, .int .i32 a0_4] (0, 0) _ rfl (by (with_reducible repeat (first | refine blk_drewN ?_ _ | refine blk_drew ?_ | refine blk_alloc ?_ _)); refine blk_put (cs := #[.int .u8 a0_0, .int .u8 a0_1, .int .u8 a0_2, .int .i16 a0_3, .int .i32 0]) ?_ 4 _ rfl; (with_reducible repeat (first | refine blk_drewN ?_ _ | refine blk_drew ?_ | refine blk_alloc ?_ _)); refine blk_put (cs := #[.int .u8 a0_0, .int .u8 a0_1, .int .u8 a0_2, .int .i16 0, .int .i32 0]) ?_ 3 _ rfl; (with_reducible repeat (first | refine blk_drewN ?_ _ | refine blk_drew ?_ | refine blk_alloc ?_ _)); refine blk_put (cs := #[.int .u8 a0_0, .int .u8 a0_1, .int .u8 0, .int .i16 0, .int .i32 0]) ?_ 2 _ rfl; (with_reducible repeat (first | refine blk_drewN ?_ _ | refine blk_drew ?_ | refine blk_alloc ?_ _)); refine blk_put (cs := #[.int .u8 a0_0, .int .u8 0, .int .u8 0, .int .i16 0, .int .i32 0]) ?_ 1 _ rfl; (with_reducible repeat (first | refine blk_drewN ?_ _ | refine blk_drew ?_ | refine blk_alloc ?_ _)); refine blk_put (cs := #[.int .u8 0, .int .u8 0, .int .u8 0, .int .i16 0, .int .i32 0]) ?_ 0 _ rfl; (with_reducible repeat (first | refine blk_drewN ?_ _ | refine blk_drew ?_ | refine blk_alloc ?_ _)); exact BK107.out) Try.underlying43 rfl (by kernel_rfl)) rfl ?_
            exact ⟨by first | rfl | (simp [errW_none, errW_some] <;> rfl) | (simp [*, errW_none, errW_some] <;> rfl), by repeat (first | (with_reducible first | exact HB.out | apply below_alloc | apply pw_below_drewN | apply below_drew1 | refine below_set ?_ GE106.out | refine below_set ?_ GE107.out) | exact HB.out)⟩
           ·
            rw [if_neg c49] at H
            have c49b0 : (a0_0 == 149) = false := beq_eq_false_iff_ne.mpr c49
            have c49b1 : (a0_0 != 149) = true := bne_iff_ne.mpr c49
            replace H := Option.bind_eq_some_iff.mp H
            obtain ⟨t111, A530, H⟩ := H
            replace H : (if t111 = true then (some (a0_0, 0, 0, 0, a0_4)) else (some (a0_0, 0, a0_2, 0, 0))) = some (r1, r2, r3, r4, r5) := H
            have A53 := Aside0.mk A530
            clear A530
            by_cases c54 : t111 = true
            ·
             subst c54
             have H1 : (some (a0_0, 0, 0, 0, a0_4)) = some (r1, r2, r3, r4, r5) := by rw [if_pos rfl] at H; exact H
             clear H
             have H := H1
             clear H1
             simp only [Option.some.injEq, Prod.mk.injEq] at H
             obtain ⟨rfl, rfl, rfl, rfl, rfl⟩ := H
             have hnb55 := NB106_107.out
             have hnc55 := NB107_106.out
             have hcz56_0 : wc.cell? ⟨gb106, 0, none⟩ = some (.int .u8 a0_0) := (blk_cell BK106.out 0).trans rfl
             have hcz56_1 : wc.cell? ⟨gb106, 1, none⟩ = some (.int .u8 a0_1) := (blk_cell BK106.out 1).trans rfl
             have hcz56_2 : wc.cell? ⟨gb106, 2, none⟩ = some (.int .u8 a0_2) := (blk_cell BK106.out 2).trans rfl
             have hcz56_3 : wc.cell? ⟨gb106, 3, none⟩ = some (.int .i16 a0_3) := (blk_cell BK106.out 3).trans rfl
             have hcz56_4 : wc.cell? ⟨gb106, 4, none⟩ = some (.int .i32 a0_4) := (blk_cell BK106.out 4).trans rfl
             have hfz56_0 := blk_frozen BK106.out 0
             have hfz56_1 := blk_frozen BK106.out 1
             have hfz56_2 := blk_frozen BK106.out 2
             have hfz56_3 := blk_frozen BK106.out 3
             have hfz56_4 := blk_frozen BK106.out 4
             go_wp2_with (first | ((with_reducible refine gate_callee (f := 49) rfl ?_); refine goesL_ (some 69) rfl rfl Try.func49 (by kernel_rfl) rfl #[.int .u8 a0_0] rfl (by (try simp only [List.map_toArray, List.map_cons, List.map_nil]); first | done | rfl | (simp only [List.length_drop, List.length_take]; rfl)) ?_; (with_reducible refine (insn_ByReg.calls a0_0 true _ A53.out).mono ?_); rintro e w' ⟨rfl, ⟨nd, rfl⟩⟩; refine ⟨_, rfl, ?_⟩; (try (rw [drewN_self wc]; generalize hq_ : World.drewN wc _ = wc; have n0_ : Aside0 (wc.heap[gb106]? = some (.cells #[.int .u8 a0_0, .int .u8 a0_1, .int .u8 a0_2, .int .i16 a0_3, .int .i32 a0_4] 43 (0, 0))) := ⟨by rw [← hq_]; exact (by (with_reducible repeat (first | refine blk_drewN ?_ _ | refine blk_drew ?_ | refine blk_alloc ?_ _)); exact BK106.out)⟩; have n1_ : Aside0 (wc.heap[gb107]? = some (.cells #[.int .u8 0, .int .u8 0, .int .u8 0, .int .i16 0, .int .i32 0] 43 (0, 0))) := ⟨by rw [← hq_]; exact (by (with_reducible repeat (first | refine blk_drewN ?_ _ | refine blk_drew ?_ | refine blk_alloc ?_ _)); exact BK107.out)⟩; have n2_ : Aside0 (Below w.heap.size w wc) := ⟨by rw [← hq_]; exact (by repeat (first | (with_reducible first | exact HB.out | apply below_alloc | apply pw_below_drewN | apply below_drew1 | refine below_set ?_ GE106.out | refine below_set ?_ GE107.out) | exact HB.out))⟩; clear BK106 BK107 HB hq_; have BK106 := n0_; have BK107 := n1_; have HB := n2_; clear n0_ n1_ n2_)); (try have hczu57_0 : wc.cell? ⟨gb106, 0, none⟩ = some (.int .u8 a0_0) := (blk_cell BK106.out 0).trans rfl); (try have hczu57_1 : wc.cell? ⟨gb106, 1, none⟩ = some (.int .u8 a0_1) := (blk_cell BK106.out 1).trans rfl); (try have hczu57_2 : wc.cell? ⟨gb106, 2, none⟩ = some (.int .u8 a0_2) := (blk_cell BK106.out 2).trans rfl); (try have hczu57_3 : wc.cell? ⟨gb106, 3, none⟩ = some (.int .i16 a0_3) := (blk_cell BK106.out 3).trans rfl); (try have hczu57_4 : wc.cell? ⟨gb106, 4, none⟩ = some (.int .i32 a0_4) := (blk_cell BK106.out 4).trans rfl); have hfzu57_0 := blk_frozen BK106.out 0; have hfzu57_1 := blk_frozen BK106.out 1; have hfzu57_2 := blk_frozen BK106.out 2; have hfzu57_3 := blk_frozen BK106.out 3; have hfzu57_4 := blk_frozen BK106.out 4; (try have hczu58_0 : wc.cell? ⟨gb107, 0, none⟩ = some (.int .u8 0) := (blk_cell BK107.out 0).trans rfl); (try have hczu58_1 : wc.cell? ⟨gb107, 1, none⟩ = some (.int .u8 0) := (blk_cell BK107.out 1).trans rfl); (try have hczu58_2 : wc.cell? ⟨gb107, 2, none⟩ = some (.int .u8 0) := (blk_cell BK107.out 2).trans rfl); (try have hczu58_3 : wc.cell? ⟨gb107, 3, none⟩ = some (.int .i16 0) := (blk_cell BK107.out 3).trans rfl); (try have hczu58_4 : wc.cell? ⟨gb107, 4, none⟩ = some (.int .i32 0) := (blk_cell BK107.out 4).trans rfl); have hfzu58_0 := blk_frozen BK107.out 0; have hfzu58_1 := blk_frozen BK107.out 1; have hfzu58_2 := blk_frozen BK107.out 2; have hfzu58_3 := blk_frozen BK107.out 3; have hfzu58_4 := blk_frozen BK107.out 4; have hcz59_0 : wc.cell? ⟨gb107, 0, none⟩ = some (.int .u8 0) := (blk_cell BK107.out 0).trans rfl; have hcz59_1 : wc.cell? ⟨gb107, 1, none⟩ = some (.int .u8 0) := (blk_cell BK107.out 1).trans rfl; have hcz59_2 : wc.cell? ⟨gb107, 2, none⟩ = some (.int .u8 0) := (blk_cell BK107.out 2).trans rfl; have hcz59_3 : wc.cell? ⟨gb107, 3, none⟩ = some (.int .i16 0) := (blk_cell BK107.out 3).trans rfl; have hcz59_4 : wc.cell? ⟨gb107, 4, none⟩ = some (.int .i32 0) := (blk_cell BK107.out 4).trans rfl; have hfz59_0 := blk_frozen BK107.out 0; have hfz59_1 := blk_frozen BK107.out 1; have hfz59_2 := blk_frozen BK107.out 2; have hfz59_3 := blk_frozen BK107.out 3; have hfz59_4 := blk_frozen BK107.out 4))
             refine bodyPost_ret (results_cell_row rfl _ _ gb107 43 #[.int .u8 a0_0, .int .u8 0, .int .u8 0, .int .i16 0, .int .i32 a0_4] (0, 0) _ rfl (by (with_reducible repeat (first | refine blk_drewN ?_ _ | refine blk_drew ?_ | refine blk_alloc ?_ _)); refine blk_put (cs := #[.int .u8 a0_0, .int .u8 0, .int .u8 0, .int .i16 0, .int .i32 0]) ?_ 4 _ rfl; (with_reducible repeat (first | refine blk_drewN ?_ _ | refine blk_drew ?_ | refine blk_alloc ?_ _)); refine blk_put (cs := #[.int .u8 a0_0, .int .u8 0, .int .u8 0, .int .i16 0, .int .i32 0]) ?_ 3 _ rfl; (with_reducible repeat (first | refine blk_drewN ?_ _ | refine blk_drew ?_ | refine blk_alloc ?_ _)); refine blk_put (cs := #[.int .u8 a0_0, .int .u8 0, .int .u8 0, .int .i16 0, .int .i32 0]) ?_ 2 _ rfl; (with_reducible repeat (first | refine blk_drewN ?_ _ | refine blk_drew ?_ | refine blk_alloc ?_ _)); refine blk_put (cs := #[.int .u8 a0_0, .int .u8 0, .int .u8 0, .int .i16 0, .int .i32 0]) ?_ 1 _ rfl; (with_reducible repeat (first | refine blk_drewN ?_ _ | refine blk_drew ?_ | refine blk_alloc ?_ _)); refine blk_put (cs := #[.int .u8 0, .int .u8 0, .int .u8 0, .int .i16 0, .int .i32 0]) ?_ 0 _ rfl; (with_reducible repeat (first | refine blk_drewN ?_ _ | refine blk_drew ?_ | refine blk_alloc ?_ _)); refine blk_far ?_ NB107_106.out _; (with_reducible repeat (first | refine blk_drewN ?_ _ | refine blk_drew ?_ | refine blk_alloc ?_ _)); refine blk_far ?_ NB107_106.out _; (with_reducible repeat (first | refine blk_drewN ?_ _ | refine blk_drew ?_ | refine blk_alloc ?_ _)); refine blk_far ?_ NB107_106.out _; (with_reducible repeat (first | refine blk_drewN ?_ _ | refine blk_drew ?_ | refine blk_alloc ?_ _)); exact BK107.out) Try.underlying43 rfl (by kernel_rfl)) rfl ?_
             exact ⟨by first | rfl | (simp [errW_none, errW_some] <;> rfl) | (simp [*, errW_none, errW_some] <;> rfl), by repeat (first | (with_reducible first | exact HB.out | apply below_alloc | apply pw_below_drewN | apply below_drew1 | refine below_set ?_ GE106.out | refine below_set ?_ GE107.out) | exact HB.out)⟩
            ·
             replace c54 := Bool.eq_false_iff.mpr c54
             subst c54
             have H1 : (some (a0_0, 0, a0_2, 0, 0)) = some (r1, r2, r3, r4, r5) := by rw [if_neg (show ¬ (false = true) by decide)] at H; exact H
             clear H
             have H := H1
             clear H1
             simp only [Option.some.injEq, Prod.mk.injEq] at H
             obtain ⟨rfl, rfl, rfl, rfl, rfl⟩ := H
             have hnb60 := NB106_107.out
             have hnc60 := NB107_106.out
             have hcz61_0 : wc.cell? ⟨gb106, 0, none⟩ = some (.int .u8 a0_0) := (blk_cell BK106.out 0).trans rfl
             have hcz61_1 : wc.cell? ⟨gb106, 1, none⟩ = some (.int .u8 a0_1) := (blk_cell BK106.out 1).trans rfl
             have hcz61_2 : wc.cell? ⟨gb106, 2, none⟩ = some (.int .u8 a0_2) := (blk_cell BK106.out 2).trans rfl
             have hcz61_3 : wc.cell? ⟨gb106, 3, none⟩ = some (.int .i16 a0_3) := (blk_cell BK106.out 3).trans rfl
             have hcz61_4 : wc.cell? ⟨gb106, 4, none⟩ = some (.int .i32 a0_4) := (blk_cell BK106.out 4).trans rfl
             have hfz61_0 := blk_frozen BK106.out 0
             have hfz61_1 := blk_frozen BK106.out 1
             have hfz61_2 := blk_frozen BK106.out 2
             have hfz61_3 := blk_frozen BK106.out 3
             have hfz61_4 := blk_frozen BK106.out 4
             go_wp2_with (first | ((with_reducible refine gate_callee (f := 49) rfl ?_); refine goesL_ (some 69) rfl rfl Try.func49 (by kernel_rfl) rfl #[.int .u8 a0_0] rfl (by (try simp only [List.map_toArray, List.map_cons, List.map_nil]); first | done | rfl | (simp only [List.length_drop, List.length_take]; rfl)) ?_; (with_reducible refine (insn_ByReg.calls a0_0 false _ A53.out).mono ?_); rintro e w' ⟨rfl, ⟨nd, rfl⟩⟩; refine ⟨_, rfl, ?_⟩; (try (rw [drewN_self wc]; generalize hq_ : World.drewN wc _ = wc; have n0_ : Aside0 (wc.heap[gb106]? = some (.cells #[.int .u8 a0_0, .int .u8 a0_1, .int .u8 a0_2, .int .i16 a0_3, .int .i32 a0_4] 43 (0, 0))) := ⟨by rw [← hq_]; exact (by (with_reducible repeat (first | refine blk_drewN ?_ _ | refine blk_drew ?_ | refine blk_alloc ?_ _)); exact BK106.out)⟩; have n1_ : Aside0 (wc.heap[gb107]? = some (.cells #[.int .u8 0, .int .u8 0, .int .u8 0, .int .i16 0, .int .i32 0] 43 (0, 0))) := ⟨by rw [← hq_]; exact (by (with_reducible repeat (first | refine blk_drewN ?_ _ | refine blk_drew ?_ | refine blk_alloc ?_ _)); exact BK107.out)⟩; have n2_ : Aside0 (Below w.heap.size w wc) := ⟨by rw [← hq_]; exact (by repeat (first | (with_reducible first | exact HB.out | apply below_alloc | apply pw_below_drewN | apply below_drew1 | refine below_set ?_ GE106.out | refine below_set ?_ GE107.out) | exact HB.out))⟩; clear BK106 BK107 HB hq_; have BK106 := n0_; have BK107 := n1_; have HB := n2_; clear n0_ n1_ n2_)); (try have hczu62_0 : wc.cell? ⟨gb106, 0, none⟩ = some (.int .u8 a0_0) := (blk_cell BK106.out 0).trans rfl); (try have hczu62_1 : wc.cell? ⟨gb106, 1, none⟩ = some (.int .u8 a0_1) := (blk_cell BK106.out 1).trans rfl); (try have hczu62_2 : wc.cell? ⟨gb106, 2, none⟩ = some (.int .u8 a0_2) := (blk_cell BK106.out 2).trans rfl); (try have hczu62_3 : wc.cell? ⟨gb106, 3, none⟩ = some (.int .i16 a0_3) := (blk_cell BK106.out 3).trans rfl); (try have hczu62_4 : wc.cell? ⟨gb106, 4, none⟩ = some (.int .i32 a0_4) := (blk_cell BK106.out 4).trans rfl); have hfzu62_0 := blk_frozen BK106.out 0; have hfzu62_1 := blk_frozen BK106.out 1; have hfzu62_2 := blk_frozen BK106.out 2; have hfzu62_3 := blk_frozen BK106.out 3; have hfzu62_4 := blk_frozen BK106.out 4; (try have hczu63_0 : wc.cell? ⟨gb107, 0, none⟩ = some (.int .u8 0) := (blk_cell BK107.out 0).trans rfl); (try have hczu63_1 : wc.cell? ⟨gb107, 1, none⟩ = some (.int .u8 0) := (blk_cell BK107.out 1).trans rfl); (try have hczu63_2 : wc.cell? ⟨gb107, 2, none⟩ = some (.int .u8 0) := (blk_cell BK107.out 2).trans rfl); (try have hczu63_3 : wc.cell? ⟨gb107, 3, none⟩ = some (.int .i16 0) := (blk_cell BK107.out 3).trans rfl); (try have hczu63_4 : wc.cell? ⟨gb107, 4, none⟩ = some (.int .i32 0) := (blk_cell BK107.out 4).trans rfl); have hfzu63_0 := blk_frozen BK107.out 0; have hfzu63_1 := blk_frozen BK107.out 1; have hfzu63_2 := blk_frozen BK107.out 2; have hfzu63_3 := blk_frozen BK107.out 3; have hfzu63_4 := blk_frozen BK107.out 4; have hcz64_0 : wc.cell? ⟨gb107, 0, none⟩ = some (.int .u8 0) := (blk_cell BK107.out 0).trans rfl; have hcz64_1 : wc.cell? ⟨gb107, 1, none⟩ = some (.int .u8 0) := (blk_cell BK107.out 1).trans rfl; have hcz64_2 : wc.cell? ⟨gb107, 2, none⟩ = some (.int .u8 0) := (blk_cell BK107.out 2).trans rfl; have hcz64_3 : wc.cell? ⟨gb107, 3, none⟩ = some (.int .i16 0) := (blk_cell BK107.out 3).trans rfl; have hcz64_4 : wc.cell? ⟨gb107, 4, none⟩ = some (.int .i32 0) := (blk_cell BK107.out 4).trans rfl; have hfz64_0 := blk_frozen BK107.out 0; have hfz64_1 := blk_frozen BK107.out 1; have hfz64_2 := blk_frozen BK107.out 2; have hfz64_3 := blk_frozen BK107.out 3; have hfz64_4 := blk_frozen BK107.out 4))
             refine bodyPost_ret (results_cell_row rfl _ _ gb107 43 #[.int .u8 a0_0, .int .u8 0, .int .u8 a0_2, .int .i16 0, .int .i32 0] (0, 0) _ rfl (by (with_reducible repeat (first | refine blk_drewN ?_ _ | refine blk_drew ?_ | refine blk_alloc ?_ _)); refine blk_put (cs := #[.int .u8 a0_0, .int .u8 0, .int .u8 a0_2, .int .i16 0, .int .i32 0]) ?_ 4 _ rfl; (with_reducible repeat (first | refine blk_drewN ?_ _ | refine blk_drew ?_ | refine blk_alloc ?_ _)); refine blk_put (cs := #[.int .u8 a0_0, .int .u8 0, .int .u8 a0_2, .int .i16 0, .int .i32 0]) ?_ 3 _ rfl; (with_reducible repeat (first | refine blk_drewN ?_ _ | refine blk_drew ?_ | refine blk_alloc ?_ _)); refine blk_put (cs := #[.int .u8 a0_0, .int .u8 0, .int .u8 0, .int .i16 0, .int .i32 0]) ?_ 2 _ rfl; (with_reducible repeat (first | refine blk_drewN ?_ _ | refine blk_drew ?_ | refine blk_alloc ?_ _)); refine blk_put (cs := #[.int .u8 a0_0, .int .u8 0, .int .u8 0, .int .i16 0, .int .i32 0]) ?_ 1 _ rfl; (with_reducible repeat (first | refine blk_drewN ?_ _ | refine blk_drew ?_ | refine blk_alloc ?_ _)); refine blk_put (cs := #[.int .u8 0, .int .u8 0, .int .u8 0, .int .i16 0, .int .i32 0]) ?_ 0 _ rfl; (with_reducible repeat (first | refine blk_drewN ?_ _ | refine blk_drew ?_ | refine blk_alloc ?_ _)); refine blk_far ?_ NB107_106.out _; (with_reducible repeat (first | refine blk_drewN ?_ _ | refine blk_drew ?_ | refine blk_alloc ?_ _)); refine blk_far ?_ NB107_106.out _; (with_reducible repeat (first | refine blk_drewN ?_ _ | refine blk_drew ?_ | refine blk_alloc ?_ _)); refine blk_far ?_ NB107_106.out _; (with_reducible repeat (first | refine blk_drewN ?_ _ | refine blk_drew ?_ | refine blk_alloc ?_ _)); exact BK107.out) Try.underlying43 rfl (by kernel_rfl)) rfl ?_
             exact ⟨by first | rfl | (simp [errW_none, errW_some] <;> rfl) | (simp [*, errW_none, errW_some] <;> rfl), by repeat (first | (with_reducible first | exact HB.out | apply below_alloc | apply pw_below_drewN | apply below_drew1 | refine below_set ?_ GE106.out | refine below_set ?_ GE107.out) | exact HB.out)⟩

end Go.Proofs.Ytmijlibnembkaaa.PA
