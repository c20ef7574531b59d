-- Printed by wip/tools/extprint.py over the kit's printer, with contracts of this session's own. Lean checks it.
import Derived.Test.YtmijlibnembkaaaAgPAx0
import Derived.Test.YtmijlibnembkaaaAgPAx3
namespace Go.Proofs.Ytmijlibnembkaaa.PA
open Go.RowKit Go.Proofs.YtmijlibnembkaaaW.PrintWords Go.Proofs.YtmijlibnembkaaaW.PrintLast Go.Proofs.YtmijlibnembkaaaW.PrintMore
attribute [local go_sem] max2_int min2_int max_two min_two max_three min_three max_four min_four   -- for this text's walks alone
set_option linter.unusedVariables false
set_option linter.unusedSimpArgs false

/-! ### shape_field: function 27 -/
mutual
def shape_field.j0 : Nat → Int → Bool → Int → Int → Int → Int → Int → Option (Bool)
 | 0, _, _, _, _, _, _, _ => none
 | k + 1, x3, x4, x131000, x131001, x131002, x131003, x131004 => if x131001 = 10 then (if x4 = true then (shape_field.j1 k x3 x4 true x131000 x131001 x131002 x131003 x131004) else (if x3 = 0 then (shape_field.j1 k x3 x4 true x131000 x131001 x131002 x131003 x131004) else (shape_field.j1 k x3 x4 (x3 == 1) x131000 x131001 x131002 x131003 x131004))) else (shape_field.j1 k x3 x4 false x131000 x131001 x131002 x131003 x131004)
def shape_field.j1 : Nat → Int → Bool → Bool → Int → Int → Int → Int → Int → Option (Bool)
 | 0, _, _, _, _, _, _, _, _ => none
 | k + 1, x3, x4, x27, x131000, x131001, x131002, x131003, x131004 => if x27 = true then (some true) else (if x4 = true then ((insn_ByReg.f x131000).bind fun t132 => (shape_field.j2 k x3 t132 x131000 x131001 x131002 x131003 x131004)) else (shape_field.j2 k x3 true x131000 x131001 x131002 x131003 x131004))
def shape_field.j2 : Nat → Int → Bool → Int → Int → Int → Int → Int → Option (Bool)
 | 0, _, _, _, _, _, _, _ => none
 | k + 1, x3, x34, x131000, x131001, x131002, x131003, x131004 => if x34 = true then (some false) else ((insn_Kind.f x131000).bind fun t133 => (if t133 = 48 then (shape_field.j3 k x3 t133 (t133 == 48) x131000 x131001 x131002 x131003 x131004) else (shape_field.j3 k x3 t133 (t133 == 144) x131000 x131001 x131002 x131003 x131004)))
def shape_field.j3 : Nat → Int → Int → Bool → Int → Int → Int → Int → Int → Option (Bool)
 | 0, _, _, _, _, _, _, _, _ => none
 | k + 1, x3, x37, x38, x131000, x131001, x131002, x131003, x131004 => if x38 = true then (some (x131004 == 0)) else (if x37 = 96 then (if x131004 < 0 then (some true) else (if x131004 > 63 then (some true) else (if x3 = 4 then (some (decide (x131004 > 31))) else (some false)))) else (if x37 = 112 then (if x131004 < 0 then (some true) else (if x131004 > 63 then (some true) else (if x3 = 4 then (some (decide (x131004 > 31))) else (some false)))) else (if x37 = 192 then (if x131004 < 0 then (some true) else (if x131004 > 63 then (some true) else (if x3 = 4 then (some (decide (x131004 > 31))) else (some false)))) else (some false))))
end
def shape_field.f (k : Nat) (a0_0 : Int) (a0_1 : Int) (a0_2 : Int) (a0_3 : Int) (a0_4 : Int) : Option (Bool) := (insn_Class.f a0_0).bind fun t131 => (if t131 = 4 then (shape_field.j0 k t131 true a0_0 a0_1 a0_2 a0_3 a0_4) else (shape_field.j0 k t131 (t131 == 7) a0_0 a0_1 a0_2 a0_3 a0_4))
theorem shape_field.mono_l : ∀ k, (∀ y0 y1 y2 y3 y4 y5 y6, LeO (shape_field.j0 k y0 y1 y2 y3 y4 y5 y6) (shape_field.j0 (k + 1) y0 y1 y2 y3 y4 y5 y6)) ∧ (∀ y0 y1 y2 y3 y4 y5 y6 y7, LeO (shape_field.j1 k y0 y1 y2 y3 y4 y5 y6 y7) (shape_field.j1 (k + 1) y0 y1 y2 y3 y4 y5 y6 y7)) ∧ (∀ y0 y1 y2 y3 y4 y5 y6, LeO (shape_field.j2 k y0 y1 y2 y3 y4 y5 y6) (shape_field.j2 (k + 1) y0 y1 y2 y3 y4 y5 y6)) ∧ (∀ y0 y1 y2 y3 y4 y5 y6 y7, LeO (shape_field.j3 k y0 y1 y2 y3 y4 y5 y6 y7) (shape_field.j3 (k + 1) y0 y1 y2 y3 y4 y5 y6 y7))
 | 0 => ⟨fun _ _ _ _ _ _ _ r h => by simp [shape_field.j0] at h, fun _ _ _ _ _ _ _ _ r h => by simp [shape_field.j1] at h, fun _ _ _ _ _ _ _ r h => by simp [shape_field.j2] at h, fun _ _ _ _ _ _ _ _ r h => by simp [shape_field.j3] at h⟩
 | k + 1 => by
  obtain ⟨ih0, ih1, ih2, ih3⟩ := shape_field.mono_l k; refine ⟨?_, ?_, ?_, ?_⟩
  ·
   intro y0 y1 y2 y3 y4 y5 y6
   unfold shape_field.j0
   repeat' first
   | (with_reducible exact ih0 _ _ _ _ _ _ _)
   | (with_reducible exact ih1 _ _ _ _ _ _ _ _)
   | (with_reducible exact ih2 _ _ _ _ _ _ _)
   | (with_reducible exact ih3 _ _ _ _ _ _ _ _)
   | (with_reducible exact LeO.refl _)
   | (with_reducible exact LeO.none _)
   | (with_reducible refine LeO.ite ?_ ?_)
   | (with_reducible refine LeO.bind ?_ (fun _ => ?_))
  ·
   intro y0 y1 y2 y3 y4 y5 y6 y7
   unfold shape_field.j1
   repeat' first
   | (with_reducible exact ih0 _ _ _ _ _ _ _)
   | (with_reducible exact ih1 _ _ _ _ _ _ _ _)
   | (with_reducible exact ih2 _ _ _ _ _ _ _)
   | (with_reducible exact ih3 _ _ _ _ _ _ _ _)
   | (with_reducible exact LeO.refl _)
   | (with_reducible exact LeO.none _)
   | (with_reducible refine LeO.ite ?_ ?_)
   | (with_reducible refine LeO.bind ?_ (fun _ => ?_))
  ·
   intro y0 y1 y2 y3 y4 y5 y6
   unfold shape_field.j2
   repeat' first
   | (with_reducible exact ih0 _ _ _ _ _ _ _)
   | (with_reducible exact ih1 _ _ _ _ _ _ _ _)
   | (with_reducible exact ih2 _ _ _ _ _ _ _)
   | (with_reducible exact ih3 _ _ _ _ _ _ _ _)
   | (with_reducible exact LeO.refl _)
   | (with_reducible exact LeO.none _)
   | (with_reducible refine LeO.ite ?_ ?_)
   | (with_reducible refine LeO.bind ?_ (fun _ => ?_))
  ·
   intro y0 y1 y2 y3 y4 y5 y6 y7
   unfold shape_field.j3
   repeat' first
   | (with_reducible exact ih0 _ _ _ _ _ _ _)
   | (with_reducible exact ih1 _ _ _ _ _ _ _ _)
   | (with_reducible exact ih2 _ _ _ _ _ _ _)
   | (with_reducible exact ih3 _ _ _ _ _ _ _ _)
   | (with_reducible exact LeO.refl _)
   | (with_reducible exact LeO.none _)
   | (with_reducible refine LeO.ite ?_ ?_)
   | (with_reducible refine LeO.bind ?_ (fun _ => ?_))
theorem shape_field.mono : ∀ a0 a1 a2 a3 a4 k, LeO (shape_field.f k a0 a1 a2 a3 a4) (shape_field.f (k + 1) a0 a1 a2 a3 a4) := by
 intro a0 a1 a2 a3 a4 k; obtain ⟨ih0, ih1, ih2, ih3⟩ := shape_field.mono_l k
 unfold shape_field.f
 repeat' first
   | (with_reducible exact ih0 _ _ _ _ _ _ _)
   | (with_reducible exact ih1 _ _ _ _ _ _ _ _)
   | (with_reducible exact ih2 _ _ _ _ _ _ _)
   | (with_reducible exact ih3 _ _ _ _ _ _ _ _)
   | (with_reducible exact LeO.refl _)
   | (with_reducible exact LeO.none _)
   | (with_reducible refine LeO.ite ?_ ?_)
   | (with_reducible refine LeO.bind ?_ (fun _ => ?_))
set_option maxHeartbeats 8000000 in
set_option maxRecDepth 100000 in
theorem shape_field.calls (k : Nat) (a0_0 : Int) (a0_1 : Int) (a0_2 : Int) (a0_3 : Int) (a0_4 : Int) (r : Bool) (w : World) (h : shape_field.f k a0_0 a0_1 a0_2 a0_3 a0_4 = some r) :
  Calls Try.prog 27 #[.agg #[.int .u8 a0_0, .int .u8 a0_1, .int .u8 a0_2, .int .i16 a0_3, .int .i32 a0_4]] w fun e w' => e = .returned (.bool r) ∧ Below w.heap.size w w' := by
 have hu43 := Try.underlying43; have HB := Aside0.mk (Below.refl w.heap.size w); have H : ((insn_Class.f a0_0).bind fun t131 => (if t131 = 4 then (shape_field.j0 k t131 true a0_0 a0_1 a0_2 a0_3 a0_4) else (shape_field.j0 k t131 (t131 == 7) a0_0 a0_1 a0_2 a0_3 a0_4))) = some r := h; clear h; replace H := Option.bind_eq_some_iff.mp H; obtain ⟨t131, A20, H⟩ := H; replace H : (if t131 = 4 then (shape_field.j0 k t131 true a0_0 a0_1 a0_2 a0_3 a0_4) else (shape_field.j0 k t131 (t131 == 7) a0_0 a0_1 a0_2 a0_3 a0_4)) = some r := H; have A2 := Aside0.mk A20; clear A20; have HC3 := Aside0.mk H; clear H; go_enter Try.func27, Try.ntmps27
 go_upto_region 2 with (first | ((with_reducible refine gate_dst (N := 1) rfl ?_); refine box_event ?hg (N := 1) ?hd (cs := #[.int .u8 a0_0, .int .u8 a0_1, .int .u8 a0_2, .int .i16 a0_3, .int .i32 a0_4]) (t := 43) ?hr ?_; (case hd => rfl); (case hg => rfl); (case hr => first | (go_simp; done) | (go_simp; rfl)); intro gb130 hg w4 hbox hb; have n0_ := Aside0.mk (below_step (bl_ HB.out) hb); have n1_ := Aside0.mk (hbox); have n2_ := Aside0.mk ((by rw [hg]; exact (below_size (bl_ HB.out)) : w.heap.size ≤ gb130)); have n3_ := Aside0.mk ((by rw [hg]; exact (below_size (bl_ HB.out)) : w.heap.size ≤ gb130)); clear HB; have HB := n0_; have BK130 := n1_; have GW130 := n2_; have GE130 := n3_; clear n0_ n1_ n2_ n3_; clear hb hbox hg; have hcz5_0 : w4.cell? ⟨gb130, 0, none⟩ = some (.int .u8 a0_0) := (blk_cell BK130.out 0).trans rfl; have hcz5_1 : w4.cell? ⟨gb130, 1, none⟩ = some (.int .u8 a0_1) := (blk_cell BK130.out 1).trans rfl; have hcz5_2 : w4.cell? ⟨gb130, 2, none⟩ = some (.int .u8 a0_2) := (blk_cell BK130.out 2).trans rfl; have hcz5_3 : w4.cell? ⟨gb130, 3, none⟩ = some (.int .i16 a0_3) := (blk_cell BK130.out 3).trans rfl; have hcz5_4 : w4.cell? ⟨gb130, 4, none⟩ = some (.int .i32 a0_4) := (blk_cell BK130.out 4).trans rfl; have hfz5_0 := blk_frozen BK130.out 0; have hfz5_1 := blk_frozen BK130.out 1; have hfz5_2 := blk_frozen BK130.out 2; have hfz5_3 := blk_frozen BK130.out 3; have hfz5_4 := blk_frozen BK130.out 4) | ((with_reducible refine gate_callee (f := 48) rfl ?_); refine goesL_ (some 7) rfl rfl Try.func48 (by kernel_rfl) rfl #[.int .u8 a0_0] rfl (by (try simp only [List.map_toArray, List.map_cons, List.map_nil]); first | done | rfl | (simp only [List.length_drop, List.length_take]; rfl)) ?_; (with_reducible refine (insn_Class.calls a0_0 t131 _ A2.out).mono ?_); rintro e w' ⟨rfl, ⟨nd, rfl⟩⟩; refine ⟨_, rfl, ?_⟩))
 (try simp only [Act.put, List.setIfInBounds_toArray, List.set_cons_zero, List.set_cons_succ]); go_cut [4] (fun v4 wc => ∃ (kq : Nat) (x4_2 : Bool), v4 = .bool x4_2 ∧ Aside0 (shape_field.j0 kq t131 x4_2 a0_0 a0_1 a0_2 a0_3 a0_4 = some r) ∧ Aside0 (kq ≤ k) ∧ Aside0 (wc.heap[gb130]? = some (.cells #[.int .u8 a0_0, .int .u8 a0_1, .int .u8 a0_2, .int .i16 a0_3, .int .i32 a0_4] 43 (0, 0))) ∧ Aside0 (Below w.heap.size w wc))
 case first =>
  have H := HC3.out; clear HC3
  by_cases c6 : t131 = 4
  ·
   rw [if_pos c6] at H
   have c6b0 : (t131 == 4) = true := beq_iff_eq.mpr c6; have c6b1 : (t131 != 4) = false := bne_eq_false_iff_eq.mpr c6; clear c6; (first | rw [c6b0] | (simp only [i64_w, i32_w]; rw [c6b0]) | skip); have H' := Aside0.mk H; clear H; go_wp2; go_meet
   case rel => exact ⟨_, (true), eq_, H', ⟨by first | omega | exact Nat.le_refl _⟩, ⟨by (with_reducible repeat (first | refine blk_drewN ?_ _ | refine blk_drew ?_ | refine blk_alloc ?_ _)); exact BK130.out⟩, ⟨by repeat (first | (with_reducible first | exact HB.out | apply below_alloc | apply pw_below_drewN | apply below_drew1 | refine below_set ?_ GE130.out) | exact HB.out)⟩⟩
  ·
   rw [if_neg c6] at H
   have c6b0 : (t131 == 4) = false := beq_eq_false_iff_ne.mpr c6; have c6b1 : (t131 != 4) = true := bne_iff_ne.mpr c6; (first | rw [c6b0] | (simp only [i64_w, i32_w]; rw [c6b0]) | skip); have H' := Aside0.mk H; clear H; go_wp2; go_meet
   case rel => exact ⟨_, ((t131 == 7)), eq_, H', ⟨by first | omega | exact Nat.le_refl _⟩, ⟨by (with_reducible repeat (first | refine blk_drewN ?_ _ | refine blk_drew ?_ | refine blk_alloc ?_ _)); exact BK130.out⟩, ⟨by repeat (first | (with_reducible first | exact HB.out | apply below_alloc | apply pw_below_drewN | apply below_drew1 | refine below_set ?_ GE130.out) | exact HB.out)⟩⟩
 case rest =>
  clear HC3; (try clear c2); (try clear p2); (try clear c4); (try clear c6); (try clear c6b0); (try clear c6b1); (try clear hcz5_0); (try clear hcz5_1); (try clear hcz5_2); (try clear hcz5_3); (try clear hcz5_4); (try clear hfz5_0); (try clear hfz5_1); (try clear hfz5_2); (try clear hfz5_3); (try clear hfz5_4); obtain ⟨kq, x4_2, rfl, HA, HJ2, BK130, HB⟩ := hcut
  cases kq with
  | zero => exact absurd HA.out (by simp [shape_field.j0])
  | succ kj2 =>
   have H := HA.out; clear HA; simp only [shape_field.j0] at H; have HC7 := Aside0.mk H; clear H; go_upto_region 3 with (fail)
   go_cut [27] (fun v27 wc => ∃ (kq : Nat) (x27_6 : Bool), v27 = .bool x27_6 ∧ Aside0 (shape_field.j1 kq t131 x4_2 x27_6 a0_0 a0_1 a0_2 a0_3 a0_4 = some r) ∧ Aside0 (kq ≤ kj2) ∧ Aside0 (wc.heap[gb130]? = some (.cells #[.int .u8 a0_0, .int .u8 a0_1, .int .u8 a0_2, .int .i16 a0_3, .int .i32 a0_4] 43 (0, 0))) ∧ Aside0 (Below w.heap.size w wc))
   case first =>
    have H := HC7.out; clear HC7
    by_cases c8 : a0_1 = 10
    ·
     rw [if_pos c8] at H
     have c8b0 : (a0_1 == 10) = true := beq_iff_eq.mpr c8; have c8b1 : (a0_1 != 10) = false := bne_eq_false_iff_eq.mpr c8; clear c8; (first | rw [c8b0] | (simp only [i64_w, i32_w]; rw [c8b0]) | skip)
     by_cases c9 : x4_2 = true
     ·
      subst c9
      have H1 : (shape_field.j1 kj2 t131 true true a0_0 a0_1 a0_2 a0_3 a0_4) = some r := by rw [if_pos rfl] at H; exact H
      clear H; have H := H1; clear H1; have H' := Aside0.mk H; clear H; have hcz10_0 : wc.cell? ⟨gb130, 0, none⟩ = some (.int .u8 a0_0) := (blk_cell BK130.out 0).trans rfl; have hcz10_1 : wc.cell? ⟨gb130, 1, none⟩ = some (.int .u8 a0_1) := (blk_cell BK130.out 1).trans rfl; have hcz10_2 : wc.cell? ⟨gb130, 2, none⟩ = some (.int .u8 a0_2) := (blk_cell BK130.out 2).trans rfl; have hcz10_3 : wc.cell? ⟨gb130, 3, none⟩ = some (.int .i16 a0_3) := (blk_cell BK130.out 3).trans rfl; have hcz10_4 : wc.cell? ⟨gb130, 4, none⟩ = some (.int .i32 a0_4) := (blk_cell BK130.out 4).trans rfl; have hfz10_0 := blk_frozen BK130.out 0; have hfz10_1 := blk_frozen BK130.out 1; have hfz10_2 := blk_frozen BK130.out 2; have hfz10_3 := blk_frozen BK130.out 3; have hfz10_4 := blk_frozen BK130.out 4; go_wp2; go_meet
      case rel => exact ⟨_, (true), eq_, H', ⟨by have := HJ2.out; first | omega | exact Nat.le_refl _⟩, ⟨by (with_reducible repeat (first | refine blk_drewN ?_ _ | refine blk_drew ?_ | refine blk_alloc ?_ _)); exact BK130.out⟩, ⟨by repeat (first | (with_reducible first | exact HB.out | apply below_alloc | apply pw_below_drewN | apply below_drew1 | refine below_set ?_ GE130.out) | exact HB.out)⟩⟩
     ·
      replace c9 := Bool.eq_false_iff.mpr c9
      subst c9; have H1 : (if t131 = 0 then (shape_field.j1 kj2 t131 false true a0_0 a0_1 a0_2 a0_3 a0_4) else (shape_field.j1 kj2 t131 false (t131 == 1) a0_0 a0_1 a0_2 a0_3 a0_4)) = some r := by rw [if_neg (show ¬ (false = true) by decide)] at H; exact H
      clear H; have H := H1; clear H1
      by_cases c11 : t131 = 0
      ·
       rw [if_pos c11] at H
       have c11b0 : (t131 == 0) = true := beq_iff_eq.mpr c11; have c11b1 : (t131 != 0) = false := bne_eq_false_iff_eq.mpr c11; clear c11; have H' := Aside0.mk H; clear H; have hcz12_0 : wc.cell? ⟨gb130, 0, none⟩ = some (.int .u8 a0_0) := (blk_cell BK130.out 0).trans rfl; have hcz12_1 : wc.cell? ⟨gb130, 1, none⟩ = some (.int .u8 a0_1) := (blk_cell BK130.out 1).trans rfl; have hcz12_2 : wc.cell? ⟨gb130, 2, none⟩ = some (.int .u8 a0_2) := (blk_cell BK130.out 2).trans rfl; have hcz12_3 : wc.cell? ⟨gb130, 3, none⟩ = some (.int .i16 a0_3) := (blk_cell BK130.out 3).trans rfl; have hcz12_4 : wc.cell? ⟨gb130, 4, none⟩ = some (.int .i32 a0_4) := (blk_cell BK130.out 4).trans rfl; have hfz12_0 := blk_frozen BK130.out 0; have hfz12_1 := blk_frozen BK130.out 1; have hfz12_2 := blk_frozen BK130.out 2; have hfz12_3 := blk_frozen BK130.out 3; have hfz12_4 := blk_frozen BK130.out 4; go_wp2; go_meet
       case rel => exact ⟨_, (true), eq_, H', ⟨by have := HJ2.out; first | omega | exact Nat.le_refl _⟩, ⟨by (with_reducible repeat (first | refine blk_drewN ?_ _ | refine blk_drew ?_ | refine blk_alloc ?_ _)); exact BK130.out⟩, ⟨by repeat (first | (with_reducible first | exact HB.out | apply below_alloc | apply pw_below_drewN | apply below_drew1 | refine below_set ?_ GE130.out) | exact HB.out)⟩⟩
      ·
       rw [if_neg c11] at H
       have c11b0 : (t131 == 0) = false := beq_eq_false_iff_ne.mpr c11; have c11b1 : (t131 != 0) = true := bne_iff_ne.mpr c11; have H' := Aside0.mk H; clear H; have hcz13_0 : wc.cell? ⟨gb130, 0, none⟩ = some (.int .u8 a0_0) := (blk_cell BK130.out 0).trans rfl; have hcz13_1 : wc.cell? ⟨gb130, 1, none⟩ = some (.int .u8 a0_1) := (blk_cell BK130.out 1).trans rfl; have hcz13_2 : wc.cell? ⟨gb130, 2, none⟩ = some (.int .u8 a0_2) := (blk_cell BK130.out 2).trans rfl; have hcz13_3 : wc.cell? ⟨gb130, 3, none⟩ = some (.int .i16 a0_3) := (blk_cell BK130.out 3).trans rfl; have hcz13_4 : wc.cell? ⟨gb130, 4, none⟩ = some (.int .i32 a0_4) := (blk_cell BK130.out 4).trans rfl; have hfz13_0 := blk_frozen BK130.out 0; have hfz13_1 := blk_frozen BK130.out 1; have hfz13_2 := blk_frozen BK130.out 2; have hfz13_3 := blk_frozen BK130.out 3; have hfz13_4 := blk_frozen BK130.out 4; go_wp2; go_meet
       case rel => exact ⟨_, ((t131 == 1)), eq_, H', ⟨by have := HJ2.out; first | omega | exact Nat.le_refl _⟩, ⟨by (with_reducible repeat (first | refine blk_drewN ?_ _ | refine blk_drew ?_ | refine blk_alloc ?_ _)); exact BK130.out⟩, ⟨by repeat (first | (with_reducible first | exact HB.out | apply below_alloc | apply pw_below_drewN | apply below_drew1 | refine below_set ?_ GE130.out) | exact HB.out)⟩⟩
    ·
     rw [if_neg c8] at H
     have c8b0 : (a0_1 == 10) = false := beq_eq_false_iff_ne.mpr c8; have c8b1 : (a0_1 != 10) = true := bne_iff_ne.mpr c8; (first | rw [c8b0] | (simp only [i64_w, i32_w]; rw [c8b0]) | skip); have H' := Aside0.mk H; clear H; have hcz14_0 : wc.cell? ⟨gb130, 0, none⟩ = some (.int .u8 a0_0) := (blk_cell BK130.out 0).trans rfl; have hcz14_1 : wc.cell? ⟨gb130, 1, none⟩ = some (.int .u8 a0_1) := (blk_cell BK130.out 1).trans rfl; have hcz14_2 : wc.cell? ⟨gb130, 2, none⟩ = some (.int .u8 a0_2) := (blk_cell BK130.out 2).trans rfl; have hcz14_3 : wc.cell? ⟨gb130, 3, none⟩ = some (.int .i16 a0_3) := (blk_cell BK130.out 3).trans rfl; have hcz14_4 : wc.cell? ⟨gb130, 4, none⟩ = some (.int .i32 a0_4) := (blk_cell BK130.out 4).trans rfl; have hfz14_0 := blk_frozen BK130.out 0; have hfz14_1 := blk_frozen BK130.out 1; have hfz14_2 := blk_frozen BK130.out 2; have hfz14_3 := blk_frozen BK130.out 3; have hfz14_4 := blk_frozen BK130.out 4; go_wp2; go_meet
     case rel => exact ⟨_, (false), eq_, H', ⟨by have := HJ2.out; first | omega | exact Nat.le_refl _⟩, ⟨by (with_reducible repeat (first | refine blk_drewN ?_ _ | refine blk_drew ?_ | refine blk_alloc ?_ _)); exact BK130.out⟩, ⟨by repeat (first | (with_reducible first | exact HB.out | apply below_alloc | apply pw_below_drewN | apply below_drew1 | refine below_set ?_ GE130.out) | exact HB.out)⟩⟩
   case rest =>
    clear HC7; (try clear c1); (try clear c2); (try clear p2); (try clear c4); (try clear c6); (try clear c6b0); (try clear c6b1); (try clear c8); (try clear c8b0); (try clear c8b1); (try clear c9); (try clear c11); (try clear c11b0); (try clear c11b1); (try clear hcz10_0); (try clear hcz10_1); (try clear hcz10_2); (try clear hcz10_3); (try clear hcz10_4); (try clear hcz12_0); (try clear hcz12_1); (try clear hcz12_2); (try clear hcz12_3); (try clear hcz12_4); (try clear hcz13_0); (try clear hcz13_1); (try clear hcz13_2); (try clear hcz13_3); (try clear hcz13_4); (try clear hcz14_0); (try clear hcz14_1); (try clear hcz14_2); (try clear hcz14_3); (try clear hcz14_4); (try clear hcz5_0); (try clear hcz5_1); (try clear hcz5_2); (try clear hcz5_3); (try clear hcz5_4); (try clear hfz10_0); (try clear hfz10_1); (try clear hfz10_2); (try clear hfz10_3); (try clear hfz10_4); (try clear hfz12_0); (try clear hfz12_1); (try clear hfz12_2); (try clear hfz12_3); (try clear hfz12_4); (try clear hfz13_0); (try clear hfz13_1); (try clear hfz13_2); (try clear hfz13_3); (try clear hfz13_4); (try clear hfz14_0); (try clear hfz14_1); (try clear hfz14_2); (try clear hfz14_3); (try clear hfz14_4); (try clear hfz5_0); (try clear hfz5_1); (try clear hfz5_2); (try clear hfz5_3); (try clear hfz5_4); obtain ⟨kq, x27_6, rfl, HA, HJ6, BK130, HB⟩ := hcut
    cases kq with
    | zero => exact absurd HA.out (by simp [shape_field.j1])
    | succ kj6 =>
     have H := HA.out; clear HA; simp only [shape_field.j1] at H
     by_cases c15 : x27_6 = true
     ·
      subst c15
      have H1 : (some true) = some r := by rw [if_pos rfl] at H; exact H
      clear H; have H := H1; clear H1; obtain rfl := Option.some.inj H; go_wp2; go_ret
      exact ⟨by first | rfl | (simp [errW_none, errW_some] <;> rfl) | (simp [*, errW_none, errW_some] <;> rfl), by repeat (first | (with_reducible first | exact HB.out | apply below_alloc | apply pw_below_drewN | apply below_drew1 | refine below_set ?_ GE130.out) | exact HB.out)⟩
     ·
      replace c15 := Bool.eq_false_iff.mpr c15
      subst c15; have H1 : (if x4_2 = true then ((insn_ByReg.f a0_0).bind fun t132 => (shape_field.j2 kj6 t131 t132 a0_0 a0_1 a0_2 a0_3 a0_4)) else (shape_field.j2 kj6 t131 true a0_0 a0_1 a0_2 a0_3 a0_4)) = some r := by rw [if_neg (show ¬ (false = true) by decide)] at H; exact H
      clear H; have H := H1; clear H1; have HC16 := Aside0.mk H; clear H; go_upto_region 5 with (fail)
      go_cut [34] (fun v34 wc => ∃ (kq : Nat) (x34_15 : Bool), v34 = .bool x34_15 ∧ Aside0 (shape_field.j2 kq t131 x34_15 a0_0 a0_1 a0_2 a0_3 a0_4 = some r) ∧ Aside0 (kq ≤ kj6) ∧ Aside0 (wc.heap[gb130]? = some (.cells #[.int .u8 a0_0, .int .u8 a0_1, .int .u8 a0_2, .int .i16 a0_3, .int .i32 a0_4] 43 (0, 0))) ∧ Aside0 (Below w.heap.size w wc))
      case first =>
       have H := HC16.out; clear HC16
       by_cases c17 : x4_2 = true
       ·
        subst c17
        have H1 : ((insn_ByReg.f a0_0).bind fun t132 => (shape_field.j2 kj6 t131 t132 a0_0 a0_1 a0_2 a0_3 a0_4)) = some r := by rw [if_pos rfl] at H; exact H
        clear H; have H := H1; clear H1; replace H := Option.bind_eq_some_iff.mp H; obtain ⟨t132, A180, H⟩ := H; replace H : (shape_field.j2 kj6 t131 t132 a0_0 a0_1 a0_2 a0_3 a0_4) = some r := H; have A18 := Aside0.mk A180; clear A180; have H' := Aside0.mk H; clear H; have hcz19_0 : wc.cell? ⟨gb130, 0, none⟩ = some (.int .u8 a0_0) := (blk_cell BK130.out 0).trans rfl; have hcz19_1 : wc.cell? ⟨gb130, 1, none⟩ = some (.int .u8 a0_1) := (blk_cell BK130.out 1).trans rfl; have hcz19_2 : wc.cell? ⟨gb130, 2, none⟩ = some (.int .u8 a0_2) := (blk_cell BK130.out 2).trans rfl; have hcz19_3 : wc.cell? ⟨gb130, 3, none⟩ = some (.int .i16 a0_3) := (blk_cell BK130.out 3).trans rfl; have hcz19_4 : wc.cell? ⟨gb130, 4, none⟩ = some (.int .i32 a0_4) := (blk_cell BK130.out 4).trans rfl; have hfz19_0 := blk_frozen BK130.out 0; have hfz19_1 := blk_frozen BK130.out 1; have hfz19_2 := blk_frozen BK130.out 2; have hfz19_3 := blk_frozen BK130.out 3; have hfz19_4 := blk_frozen BK130.out 4; go_wp2_with (first | (go_at_call 49; (with_reducible refine (insn_ByReg.calls a0_0 t132 _ A18.out).mono ?_); rintro e w' ⟨rfl, ⟨nd, rfl⟩⟩))
        go_meet
        case rel => exact ⟨_, (t132), eq_, H', ⟨by have := HJ2.out; have := HJ6.out; first | omega | exact Nat.le_refl _⟩, ⟨by (with_reducible repeat (first | refine blk_drewN ?_ _ | refine blk_drew ?_ | refine blk_alloc ?_ _)); exact BK130.out⟩, ⟨by repeat (first | (with_reducible first | exact HB.out | apply below_alloc | apply pw_below_drewN | apply below_drew1 | refine below_set ?_ GE130.out) | exact HB.out)⟩⟩
       ·
        replace c17 := Bool.eq_false_iff.mpr c17
        subst c17; have H1 : (shape_field.j2 kj6 t131 true a0_0 a0_1 a0_2 a0_3 a0_4) = some r := by rw [if_neg (show ¬ (false = true) by decide)] at H; exact H
        clear H; have H := H1; clear H1; have H' := Aside0.mk H; clear H; go_wp2; go_meet
        case rel => exact ⟨_, (true), eq_, H', ⟨by have := HJ2.out; have := HJ6.out; first | omega | exact Nat.le_refl _⟩, ⟨by (with_reducible repeat (first | refine blk_drewN ?_ _ | refine blk_drew ?_ | refine blk_alloc ?_ _)); exact BK130.out⟩, ⟨by repeat (first | (with_reducible first | exact HB.out | apply below_alloc | apply pw_below_drewN | apply below_drew1 | refine below_set ?_ GE130.out) | exact HB.out)⟩⟩
      case rest =>
       clear HC16; (try clear c1); (try clear c2); (try clear p2); (try clear c4); (try clear c6); (try clear c6b0); (try clear c6b1); (try clear c8); (try clear c8b0); (try clear c8b1); (try clear c9); (try clear c11); (try clear c11b0); (try clear c11b1); (try clear c15); (try clear c17); (try clear hcz10_0); (try clear hcz10_1); (try clear hcz10_2); (try clear hcz10_3); (try clear hcz10_4); (try clear hcz12_0); (try clear hcz12_1); (try clear hcz12_2); (try clear hcz12_3); (try clear hcz12_4); (try clear hcz13_0); (try clear hcz13_1); (try clear hcz13_2); (try clear hcz13_3); (try clear hcz13_4); (try clear hcz14_0); (try clear hcz14_1); (try clear hcz14_2); (try clear hcz14_3); (try clear hcz14_4); (try clear hcz19_0); (try clear hcz19_1); (try clear hcz19_2); (try clear hcz19_3); (try clear hcz19_4); (try clear hcz5_0); (try clear hcz5_1); (try clear hcz5_2); (try clear hcz5_3); (try clear hcz5_4); (try clear hfz10_0); (try clear hfz10_1); (try clear hfz10_2); (try clear hfz10_3); (try clear hfz10_4); (try clear hfz12_0); (try clear hfz12_1); (try clear hfz12_2); (try clear hfz12_3); (try clear hfz12_4); (try clear hfz13_0); (try clear hfz13_1); (try clear hfz13_2); (try clear hfz13_3); (try clear hfz13_4); (try clear hfz14_0); (try clear hfz14_1); (try clear hfz14_2); (try clear hfz14_3); (try clear hfz14_4); (try clear hfz19_0); (try clear hfz19_1); (try clear hfz19_2); (try clear hfz19_3); (try clear hfz19_4); (try clear hfz5_0); (try clear hfz5_1); (try clear hfz5_2); (try clear hfz5_3); (try clear hfz5_4); obtain ⟨kq, x34_15, rfl, HA, HJ15, BK130, HB⟩ := hcut
       cases kq with
       | zero => exact absurd HA.out (by simp [shape_field.j2])
       | succ kj15 =>
        have H := HA.out; clear HA; simp only [shape_field.j2] at H
        by_cases c20 : x34_15 = true
        ·
         subst c20
         have H1 : (some false) = some r := by rw [if_pos rfl] at H; exact H
         clear H; have H := H1; clear H1; obtain rfl := Option.some.inj H; go_wp2; go_ret
         exact ⟨by first | rfl | (simp [errW_none, errW_some] <;> rfl) | (simp [*, errW_none, errW_some] <;> rfl), by repeat (first | (with_reducible first | exact HB.out | apply below_alloc | apply pw_below_drewN | apply below_drew1 | refine below_set ?_ GE130.out) | exact HB.out)⟩
        ·
         replace c20 := Bool.eq_false_iff.mpr c20
         subst c20; have H1 : ((insn_Kind.f a0_0).bind fun t133 => (if t133 = 48 then (shape_field.j3 kj15 t131 t133 (t133 == 48) a0_0 a0_1 a0_2 a0_3 a0_4) else (shape_field.j3 kj15 t131 t133 (t133 == 144) a0_0 a0_1 a0_2 a0_3 a0_4))) = some r := by rw [if_neg (show ¬ (false = true) by decide)] at H; exact H
         clear H; have H := H1; clear H1; replace H := Option.bind_eq_some_iff.mp H; obtain ⟨t133, A210, H⟩ := H; replace H : (if t133 = 48 then (shape_field.j3 kj15 t131 t133 (t133 == 48) a0_0 a0_1 a0_2 a0_3 a0_4) else (shape_field.j3 kj15 t131 t133 (t133 == 144) a0_0 a0_1 a0_2 a0_3 a0_4)) = some r := H; have A21 := Aside0.mk A210; clear A210; have HC22 := Aside0.mk H; clear H; have hcz23_0 : wc.cell? ⟨gb130, 0, none⟩ = some (.int .u8 a0_0) := (blk_cell BK130.out 0).trans rfl; have hcz23_1 : wc.cell? ⟨gb130, 1, none⟩ = some (.int .u8 a0_1) := (blk_cell BK130.out 1).trans rfl; have hcz23_2 : wc.cell? ⟨gb130, 2, none⟩ = some (.int .u8 a0_2) := (blk_cell BK130.out 2).trans rfl; have hcz23_3 : wc.cell? ⟨gb130, 3, none⟩ = some (.int .i16 a0_3) := (blk_cell BK130.out 3).trans rfl; have hcz23_4 : wc.cell? ⟨gb130, 4, none⟩ = some (.int .i32 a0_4) := (blk_cell BK130.out 4).trans rfl; have hfz23_0 := blk_frozen BK130.out 0; have hfz23_1 := blk_frozen BK130.out 1; have hfz23_2 := blk_frozen BK130.out 2; have hfz23_3 := blk_frozen BK130.out 3; have hfz23_4 := blk_frozen BK130.out 4; go_upto_if 38 with (first | ((with_reducible refine gate_callee (f := 50) rfl ?_); refine goesL_ (some 37) rfl rfl Try.func50 (by kernel_rfl) rfl #[.int .u8 a0_0] rfl (by (try simp only [List.map_toArray, List.map_cons, List.map_nil]); first | done | rfl | (simp only [List.length_drop, List.length_take]; rfl)) ?_; (with_reducible refine (insn_Kind.calls a0_0 t133 _ A21.out).mono ?_); rintro e w' ⟨rfl, ⟨nd, rfl⟩⟩; refine ⟨_, rfl, ?_⟩))
         (try simp only [Act.put, List.setIfInBounds_toArray, List.set_cons_zero, List.set_cons_succ]); go_cut [38] (fun v38 wc => ∃ (kq : Nat) (x38_21 : Bool), v38 = .bool x38_21 ∧ Aside0 (shape_field.j3 kq t131 t133 x38_21 a0_0 a0_1 a0_2 a0_3 a0_4 = some r) ∧ Aside0 (kq ≤ kj15) ∧ Aside0 (wc.heap[gb130]? = some (.cells #[.int .u8 a0_0, .int .u8 a0_1, .int .u8 a0_2, .int .i16 a0_3, .int .i32 a0_4] 43 (0, 0))) ∧ Aside0 (Below w.heap.size w wc))
         case first =>
          have H := HC22.out; clear HC22
          by_cases c24 : t133 = 48
          ·
           rw [if_pos c24] at H
           have c24b0 : (t133 == 48) = true := beq_iff_eq.mpr c24; have c24b1 : (t133 != 48) = false := bne_eq_false_iff_eq.mpr c24; clear c24; (first | rw [c24b0] | (simp only [i64_w, i32_w]; rw [c24b0]) | skip); have H' := Aside0.mk H; clear H; go_wp2; go_meet
           case rel => exact ⟨_, ((t133 == 48)), eq_, H', ⟨by have := HJ2.out; have := HJ6.out; have := HJ15.out; first | omega | exact Nat.le_refl _⟩, ⟨by (with_reducible repeat (first | refine blk_drewN ?_ _ | refine blk_drew ?_ | refine blk_alloc ?_ _)); exact BK130.out⟩, ⟨by repeat (first | (with_reducible first | exact HB.out | apply below_alloc | apply pw_below_drewN | apply below_drew1 | refine below_set ?_ GE130.out) | exact HB.out)⟩⟩
          ·
           rw [if_neg c24] at H
           have c24b0 : (t133 == 48) = false := beq_eq_false_iff_ne.mpr c24; have c24b1 : (t133 != 48) = true := bne_iff_ne.mpr c24; (first | rw [c24b0] | (simp only [i64_w, i32_w]; rw [c24b0]) | skip); have H' := Aside0.mk H; clear H; go_wp2; go_meet
           case rel => exact ⟨_, ((t133 == 144)), eq_, H', ⟨by have := HJ2.out; have := HJ6.out; have := HJ15.out; first | omega | exact Nat.le_refl _⟩, ⟨by (with_reducible repeat (first | refine blk_drewN ?_ _ | refine blk_drew ?_ | refine blk_alloc ?_ _)); exact BK130.out⟩, ⟨by repeat (first | (with_reducible first | exact HB.out | apply below_alloc | apply pw_below_drewN | apply below_drew1 | refine below_set ?_ GE130.out) | exact HB.out)⟩⟩
         case rest =>
          clear HC22; (try clear c1); (try clear c2); (try clear p2); (try clear c4); (try clear c5); (try clear c6); (try clear c6b0); (try clear c6b1); (try clear c8); (try clear c8b0); (try clear c8b1); (try clear c9); (try clear c11); (try clear c11b0); (try clear c11b1); (try clear c15); (try clear c17); (try clear c20); (try clear c24); (try clear c24b0); (try clear c24b1); (try clear hcz10_0); (try clear hcz10_1); (try clear hcz10_2); (try clear hcz10_3); (try clear hcz10_4); (try clear hcz12_0); (try clear hcz12_1); (try clear hcz12_2); (try clear hcz12_3); (try clear hcz12_4); (try clear hcz13_0); (try clear hcz13_1); (try clear hcz13_2); (try clear hcz13_3); (try clear hcz13_4); (try clear hcz14_0); (try clear hcz14_1); (try clear hcz14_2); (try clear hcz14_3); (try clear hcz14_4); (try clear hcz19_0); (try clear hcz19_1); (try clear hcz19_2); (try clear hcz19_3); (try clear hcz19_4); (try clear hcz23_0); (try clear hcz23_1); (try clear hcz23_2); (try clear hcz23_3); (try clear hcz23_4); (try clear hcz5_0); (try clear hcz5_1); (try clear hcz5_2); (try clear hcz5_3); (try clear hcz5_4); (try clear hfz10_0); (try clear hfz10_1); (try clear hfz10_2); (try clear hfz10_3); (try clear hfz10_4); (try clear hfz12_0); (try clear hfz12_1); (try clear hfz12_2); (try clear hfz12_3); (try clear hfz12_4); (try clear hfz13_0); (try clear hfz13_1); (try clear hfz13_2); (try clear hfz13_3); (try clear hfz13_4); (try clear hfz14_0); (try clear hfz14_1); (try clear hfz14_2); (try clear hfz14_3); (try clear hfz14_4); (try clear hfz19_0); (try clear hfz19_1); (try clear hfz19_2); (try clear hfz19_3); (try clear hfz19_4); (try clear hfz23_0); (try clear hfz23_1); (try clear hfz23_2); (try clear hfz23_3); (try clear hfz23_4); (try clear hfz5_0); (try clear hfz5_1); (try clear hfz5_2); (try clear hfz5_3); (try clear hfz5_4); obtain ⟨kq, x38_21, rfl, HA, HJ21, BK130, HB⟩ := hcut
          cases kq with
          | zero => exact absurd HA.out (by simp [shape_field.j3])
          | succ kj21 =>
           have H := HA.out; clear HA; simp only [shape_field.j3] at H
           by_cases c25 : x38_21 = true
           ·
            subst c25
            have H1 : (some (a0_4 == 0)) = some r := by rw [if_pos rfl] at H; exact H
            clear H; have H := H1; clear H1; obtain rfl := Option.some.inj H; have hcz26_0 : wc.cell? ⟨gb130, 0, none⟩ = some (.int .u8 a0_0) := (blk_cell BK130.out 0).trans rfl; have hcz26_1 : wc.cell? ⟨gb130, 1, none⟩ = some (.int .u8 a0_1) := (blk_cell BK130.out 1).trans rfl; have hcz26_2 : wc.cell? ⟨gb130, 2, none⟩ = some (.int .u8 a0_2) := (blk_cell BK130.out 2).trans rfl; have hcz26_3 : wc.cell? ⟨gb130, 3, none⟩ = some (.int .i16 a0_3) := (blk_cell BK130.out 3).trans rfl; have hcz26_4 : wc.cell? ⟨gb130, 4, none⟩ = some (.int .i32 a0_4) := (blk_cell BK130.out 4).trans rfl; have hfz26_0 := blk_frozen BK130.out 0; have hfz26_1 := blk_frozen BK130.out 1; have hfz26_2 := blk_frozen BK130.out 2; have hfz26_3 := blk_frozen BK130.out 3; have hfz26_4 := blk_frozen BK130.out 4; go_wp2; go_ret
            exact ⟨by first | rfl | (simp [errW_none, errW_some] <;> rfl) | (simp [*, errW_none, errW_some] <;> rfl), by repeat (first | (with_reducible first | exact HB.out | apply below_alloc | apply pw_below_drewN | apply below_drew1 | refine below_set ?_ GE130.out) | exact HB.out)⟩
           ·
            replace c25 := Bool.eq_false_iff.mpr c25
            subst c25; have H1 : (if t133 = 96 then (if a0_4 < 0 then (some true) else (if a0_4 > 63 then (some true) else (if t131 = 4 then (some (decide (a0_4 > 31))) else (some false)))) else (if t133 = 112 then (if a0_4 < 0 then (some true) else (if a0_4 > 63 then (some true) else (if t131 = 4 then (some (decide (a0_4 > 31))) else (some false)))) else (if t133 = 192 then (if a0_4 < 0 then (some true) else (if a0_4 > 63 then (some true) else (if t131 = 4 then (some (decide (a0_4 > 31))) else (some false)))) else (some false)))) = some r := by rw [if_neg (show ¬ (false = true) by decide)] at H; exact H
            clear H; have H := H1; clear H1
            by_cases c27 : t133 = 96
            ·
             rw [if_pos c27] at H
             have c27b0 : (t133 == 96) = true := beq_iff_eq.mpr c27; have c27b1 : (t133 != 96) = false := bne_eq_false_iff_eq.mpr c27; clear c27
             by_cases c28 : a0_4 < 0
             ·
              rw [if_pos c28] at H
              have c28b0 : decide (a0_4 < 0) = true := decide_eq_true c28; clear c28; obtain rfl := Option.some.inj H; have hcz29_0 : wc.cell? ⟨gb130, 0, none⟩ = some (.int .u8 a0_0) := (blk_cell BK130.out 0).trans rfl; have hcz29_1 : wc.cell? ⟨gb130, 1, none⟩ = some (.int .u8 a0_1) := (blk_cell BK130.out 1).trans rfl; have hcz29_2 : wc.cell? ⟨gb130, 2, none⟩ = some (.int .u8 a0_2) := (blk_cell BK130.out 2).trans rfl; have hcz29_3 : wc.cell? ⟨gb130, 3, none⟩ = some (.int .i16 a0_3) := (blk_cell BK130.out 3).trans rfl; have hcz29_4 : wc.cell? ⟨gb130, 4, none⟩ = some (.int .i32 a0_4) := (blk_cell BK130.out 4).trans rfl; have hfz29_0 := blk_frozen BK130.out 0; have hfz29_1 := blk_frozen BK130.out 1; have hfz29_2 := blk_frozen BK130.out 2; have hfz29_3 := blk_frozen BK130.out 3; have hfz29_4 := blk_frozen BK130.out 4; go_wp2; go_ret
              exact ⟨by first | rfl | (simp [errW_none, errW_some] <;> rfl) | (simp [*, errW_none, errW_some] <;> rfl), by repeat (first | (with_reducible first | exact HB.out | apply below_alloc | apply pw_below_drewN | apply below_drew1 | refine below_set ?_ GE130.out) | exact HB.out)⟩
             ·
              rw [if_neg c28] at H
              have c28b0 : decide (a0_4 < 0) = false := decide_eq_false c28; clear c28
              by_cases c30 : a0_4 > 63
              ·
               rw [if_pos c30] at H
               have c30b0 : decide (63 < a0_4) = true := decide_eq_true c30; clear c30; obtain rfl := Option.some.inj H; have hcz31_0 : wc.cell? ⟨gb130, 0, none⟩ = some (.int .u8 a0_0) := (blk_cell BK130.out 0).trans rfl; have hcz31_1 : wc.cell? ⟨gb130, 1, none⟩ = some (.int .u8 a0_1) := (blk_cell BK130.out 1).trans rfl; have hcz31_2 : wc.cell? ⟨gb130, 2, none⟩ = some (.int .u8 a0_2) := (blk_cell BK130.out 2).trans rfl; have hcz31_3 : wc.cell? ⟨gb130, 3, none⟩ = some (.int .i16 a0_3) := (blk_cell BK130.out 3).trans rfl; have hcz31_4 : wc.cell? ⟨gb130, 4, none⟩ = some (.int .i32 a0_4) := (blk_cell BK130.out 4).trans rfl; have hfz31_0 := blk_frozen BK130.out 0; have hfz31_1 := blk_frozen BK130.out 1; have hfz31_2 := blk_frozen BK130.out 2; have hfz31_3 := blk_frozen BK130.out 3; have hfz31_4 := blk_frozen BK130.out 4; go_wp2; go_ret
               exact ⟨by first | rfl | (simp [errW_none, errW_some] <;> rfl) | (simp [*, errW_none, errW_some] <;> rfl), by repeat (first | (with_reducible first | exact HB.out | apply below_alloc | apply pw_below_drewN | apply below_drew1 | refine below_set ?_ GE130.out) | exact HB.out)⟩
              ·
               rw [if_neg c30] at H
               have c30b0 : decide (63 < a0_4) = false := decide_eq_false c30; clear c30
               by_cases c32 : t131 = 4
               ·
                rw [if_pos c32] at H
                have c32b0 : (t131 == 4) = true := beq_iff_eq.mpr c32; have c32b1 : (t131 != 4) = false := bne_eq_false_iff_eq.mpr c32; clear c32; obtain rfl := Option.some.inj H; have hcz33_0 : wc.cell? ⟨gb130, 0, none⟩ = some (.int .u8 a0_0) := (blk_cell BK130.out 0).trans rfl; have hcz33_1 : wc.cell? ⟨gb130, 1, none⟩ = some (.int .u8 a0_1) := (blk_cell BK130.out 1).trans rfl; have hcz33_2 : wc.cell? ⟨gb130, 2, none⟩ = some (.int .u8 a0_2) := (blk_cell BK130.out 2).trans rfl; have hcz33_3 : wc.cell? ⟨gb130, 3, none⟩ = some (.int .i16 a0_3) := (blk_cell BK130.out 3).trans rfl; have hcz33_4 : wc.cell? ⟨gb130, 4, none⟩ = some (.int .i32 a0_4) := (blk_cell BK130.out 4).trans rfl; have hfz33_0 := blk_frozen BK130.out 0; have hfz33_1 := blk_frozen BK130.out 1; have hfz33_2 := blk_frozen BK130.out 2; have hfz33_3 := blk_frozen BK130.out 3; have hfz33_4 := blk_frozen BK130.out 4; go_wp2; go_ret
                exact ⟨by first | rfl | (simp [errW_none, errW_some] <;> rfl) | (simp [*, errW_none, errW_some] <;> rfl), by repeat (first | (with_reducible first | exact HB.out | apply below_alloc | apply pw_below_drewN | apply below_drew1 | refine below_set ?_ GE130.out) | exact HB.out)⟩
               ·
                rw [if_neg c32] at H
                have c32b0 : (t131 == 4) = false := beq_eq_false_iff_ne.mpr c32; have c32b1 : (t131 != 4) = true := bne_iff_ne.mpr c32; obtain rfl := Option.some.inj H; have hcz34_0 : wc.cell? ⟨gb130, 0, none⟩ = some (.int .u8 a0_0) := (blk_cell BK130.out 0).trans rfl; have hcz34_1 : wc.cell? ⟨gb130, 1, none⟩ = some (.int .u8 a0_1) := (blk_cell BK130.out 1).trans rfl; have hcz34_2 : wc.cell? ⟨gb130, 2, none⟩ = some (.int .u8 a0_2) := (blk_cell BK130.out 2).trans rfl; have hcz34_3 : wc.cell? ⟨gb130, 3, none⟩ = some (.int .i16 a0_3) := (blk_cell BK130.out 3).trans rfl; have hcz34_4 : wc.cell? ⟨gb130, 4, none⟩ = some (.int .i32 a0_4) := (blk_cell BK130.out 4).trans rfl; have hfz34_0 := blk_frozen BK130.out 0; have hfz34_1 := blk_frozen BK130.out 1; have hfz34_2 := blk_frozen BK130.out 2; have hfz34_3 := blk_frozen BK130.out 3; have hfz34_4 := blk_frozen BK130.out 4; go_wp2; go_ret
                exact ⟨by first | rfl | (simp [errW_none, errW_some] <;> rfl) | (simp [*, errW_none, errW_some] <;> rfl), by repeat (first | (with_reducible first | exact HB.out | apply below_alloc | apply pw_below_drewN | apply below_drew1 | refine below_set ?_ GE130.out) | exact HB.out)⟩
            ·
             rw [if_neg c27] at H
             have c27b0 : (t133 == 96) = false := beq_eq_false_iff_ne.mpr c27; have c27b1 : (t133 != 96) = true := bne_iff_ne.mpr c27
             by_cases c35 : t133 = 112
             ·
              rw [if_pos c35] at H
              have c35b0 : (t133 == 112) = true := beq_iff_eq.mpr c35; have c35b1 : (t133 != 112) = false := bne_eq_false_iff_eq.mpr c35; clear c35
              by_cases c36 : a0_4 < 0
              ·
               rw [if_pos c36] at H
               have c36b0 : decide (a0_4 < 0) = true := decide_eq_true c36; clear c36; obtain rfl := Option.some.inj H; have hcz37_0 : wc.cell? ⟨gb130, 0, none⟩ = some (.int .u8 a0_0) := (blk_cell BK130.out 0).trans rfl; have hcz37_1 : wc.cell? ⟨gb130, 1, none⟩ = some (.int .u8 a0_1) := (blk_cell BK130.out 1).trans rfl; have hcz37_2 : wc.cell? ⟨gb130, 2, none⟩ = some (.int .u8 a0_2) := (blk_cell BK130.out 2).trans rfl; have hcz37_3 : wc.cell? ⟨gb130, 3, none⟩ = some (.int .i16 a0_3) := (blk_cell BK130.out 3).trans rfl; have hcz37_4 : wc.cell? ⟨gb130, 4, none⟩ = some (.int .i32 a0_4) := (blk_cell BK130.out 4).trans rfl; have hfz37_0 := blk_frozen BK130.out 0; have hfz37_1 := blk_frozen BK130.out 1; have hfz37_2 := blk_frozen BK130.out 2; have hfz37_3 := blk_frozen BK130.out 3; have hfz37_4 := blk_frozen BK130.out 4; go_wp2; go_ret
               exact ⟨by first | rfl | (simp [errW_none, errW_some] <;> rfl) | (simp [*, errW_none, errW_some] <;> rfl), by repeat (first | (with_reducible first | exact HB.out | apply below_alloc | apply pw_below_drewN | apply below_drew1 | refine below_set ?_ GE130.out) | exact HB.out)⟩
              ·
               rw [if_neg c36] at H
               have c36b0 : decide (a0_4 < 0) = false := decide_eq_false c36; clear c36
               by_cases c38 : a0_4 > 63
               ·
                rw [if_pos c38] at H
                have c38b0 : decide (63 < a0_4) = true := decide_eq_true c38; clear c38; obtain rfl := Option.some.inj H; have hcz39_0 : wc.cell? ⟨gb130, 0, none⟩ = some (.int .u8 a0_0) := (blk_cell BK130.out 0).trans rfl; have hcz39_1 : wc.cell? ⟨gb130, 1, none⟩ = some (.int .u8 a0_1) := (blk_cell BK130.out 1).trans rfl; have hcz39_2 : wc.cell? ⟨gb130, 2, none⟩ = some (.int .u8 a0_2) := (blk_cell BK130.out 2).trans rfl; have hcz39_3 : wc.cell? ⟨gb130, 3, none⟩ = some (.int .i16 a0_3) := (blk_cell BK130.out 3).trans rfl; have hcz39_4 : wc.cell? ⟨gb130, 4, none⟩ = some (.int .i32 a0_4) := (blk_cell BK130.out 4).trans rfl; have hfz39_0 := blk_frozen BK130.out 0; have hfz39_1 := blk_frozen BK130.out 1; have hfz39_2 := blk_frozen BK130.out 2; have hfz39_3 := blk_frozen BK130.out 3; have hfz39_4 := blk_frozen BK130.out 4; go_wp2; go_ret
                exact ⟨by first | rfl | (simp [errW_none, errW_some] <;> rfl) | (simp [*, errW_none, errW_some] <;> rfl), by repeat (first | (with_reducible first | exact HB.out | apply below_alloc | apply pw_below_drewN | apply below_drew1 | refine below_set ?_ GE130.out) | exact HB.out)⟩
               ·
                rw [if_neg c38] at H
                have c38b0 : decide (63 < a0_4) = false := decide_eq_false c38; clear c38
                by_cases c40 : t131 = 4
                ·
                 rw [if_pos c40] at H
                 have c40b0 : (t131 == 4) = true := beq_iff_eq.mpr c40; have c40b1 : (t131 != 4) = false := bne_eq_false_iff_eq.mpr c40; clear c40; obtain rfl := Option.some.inj H; have hcz41_0 : wc.cell? ⟨gb130, 0, none⟩ = some (.int .u8 a0_0) := (blk_cell BK130.out 0).trans rfl; have hcz41_1 : wc.cell? ⟨gb130, 1, none⟩ = some (.int .u8 a0_1) := (blk_cell BK130.out 1).trans rfl; have hcz41_2 : wc.cell? ⟨gb130, 2, none⟩ = some (.int .u8 a0_2) := (blk_cell BK130.out 2).trans rfl; have hcz41_3 : wc.cell? ⟨gb130, 3, none⟩ = some (.int .i16 a0_3) := (blk_cell BK130.out 3).trans rfl; have hcz41_4 : wc.cell? ⟨gb130, 4, none⟩ = some (.int .i32 a0_4) := (blk_cell BK130.out 4).trans rfl; have hfz41_0 := blk_frozen BK130.out 0; have hfz41_1 := blk_frozen BK130.out 1; have hfz41_2 := blk_frozen BK130.out 2; have hfz41_3 := blk_frozen BK130.out 3; have hfz41_4 := blk_frozen BK130.out 4; go_wp2; go_ret
                 exact ⟨by first | rfl | (simp [errW_none, errW_some] <;> rfl) | (simp [*, errW_none, errW_some] <;> rfl), by repeat (first | (with_reducible first | exact HB.out | apply below_alloc | apply pw_below_drewN | apply below_drew1 | refine below_set ?_ GE130.out) | exact HB.out)⟩
                ·
                 rw [if_neg c40] at H
                 have c40b0 : (t131 == 4) = false := beq_eq_false_iff_ne.mpr c40; have c40b1 : (t131 != 4) = true := bne_iff_ne.mpr c40; obtain rfl := Option.some.inj H; have hcz42_0 : wc.cell? ⟨gb130, 0, none⟩ = some (.int .u8 a0_0) := (blk_cell BK130.out 0).trans rfl; have hcz42_1 : wc.cell? ⟨gb130, 1, none⟩ = some (.int .u8 a0_1) := (blk_cell BK130.out 1).trans rfl; have hcz42_2 : wc.cell? ⟨gb130, 2, none⟩ = some (.int .u8 a0_2) := (blk_cell BK130.out 2).trans rfl; have hcz42_3 : wc.cell? ⟨gb130, 3, none⟩ = some (.int .i16 a0_3) := (blk_cell BK130.out 3).trans rfl; have hcz42_4 : wc.cell? ⟨gb130, 4, none⟩ = some (.int .i32 a0_4) := (blk_cell BK130.out 4).trans rfl; have hfz42_0 := blk_frozen BK130.out 0; have hfz42_1 := blk_frozen BK130.out 1; have hfz42_2 := blk_frozen BK130.out 2; have hfz42_3 := blk_frozen BK130.out 3; have hfz42_4 := blk_frozen BK130.out 4; go_wp2; go_ret
                 exact ⟨by first | rfl | (simp [errW_none, errW_some] <;> rfl) | (simp [*, errW_none, errW_some] <;> rfl), by repeat (first | (with_reducible first | exact HB.out | apply below_alloc | apply pw_below_drewN | apply below_drew1 | refine below_set ?_ GE130.out) | exact HB.out)⟩
             ·
              rw [if_neg c35] at H
              have c35b0 : (t133 == 112) = false := beq_eq_false_iff_ne.mpr c35; have c35b1 : (t133 != 112) = true := bne_iff_ne.mpr c35
              by_cases c43 : t133 = 192
              ·
               rw [if_pos c43] at H
               have c43b0 : (t133 == 192) = true := beq_iff_eq.mpr c43; have c43b1 : (t133 != 192) = false := bne_eq_false_iff_eq.mpr c43; clear c43
               by_cases c44 : a0_4 < 0
               ·
                rw [if_pos c44] at H
                have c44b0 : decide (a0_4 < 0) = true := decide_eq_true c44; clear c44; obtain rfl := Option.some.inj H; have hcz45_0 : wc.cell? ⟨gb130, 0, none⟩ = some (.int .u8 a0_0) := (blk_cell BK130.out 0).trans rfl; have hcz45_1 : wc.cell? ⟨gb130, 1, none⟩ = some (.int .u8 a0_1) := (blk_cell BK130.out 1).trans rfl; have hcz45_2 : wc.cell? ⟨gb130, 2, none⟩ = some (.int .u8 a0_2) := (blk_cell BK130.out 2).trans rfl; have hcz45_3 : wc.cell? ⟨gb130, 3, none⟩ = some (.int .i16 a0_3) := (blk_cell BK130.out 3).trans rfl; have hcz45_4 : wc.cell? ⟨gb130, 4, none⟩ = some (.int .i32 a0_4) := (blk_cell BK130.out 4).trans rfl; have hfz45_0 := blk_frozen BK130.out 0; have hfz45_1 := blk_frozen BK130.out 1; have hfz45_2 := blk_frozen BK130.out 2; have hfz45_3 := blk_frozen BK130.out 3; have hfz45_4 := blk_frozen BK130.out 4; go_wp2; go_ret
                exact ⟨by first | rfl | (simp [errW_none, errW_some] <;> rfl) | (simp [*, errW_none, errW_some] <;> rfl), by repeat (first | (with_reducible first | exact HB.out | apply below_alloc | apply pw_below_drewN | apply below_drew1 | refine below_set ?_ GE130.out) | exact HB.out)⟩
               ·
                rw [if_neg c44] at H
                have c44b0 : decide (a0_4 < 0) = false := decide_eq_false c44; clear c44
                by_cases c46 : a0_4 > 63
                ·
                 rw [if_pos c46] at H
                 have c46b0 : decide (63 < a0_4) = true := decide_eq_true c46; clear c46; obtain rfl := Option.some.inj H; have hcz47_0 : wc.cell? ⟨gb130, 0, none⟩ = some (.int .u8 a0_0) := (blk_cell BK130.out 0).trans rfl; have hcz47_1 : wc.cell? ⟨gb130, 1, none⟩ = some (.int .u8 a0_1) := (blk_cell BK130.out 1).trans rfl; have hcz47_2 : wc.cell? ⟨gb130, 2, none⟩ = some (.int .u8 a0_2) := (blk_cell BK130.out 2).trans rfl; have hcz47_3 : wc.cell? ⟨gb130, 3, none⟩ = some (.int .i16 a0_3) := (blk_cell BK130.out 3).trans rfl; have hcz47_4 : wc.cell? ⟨gb130, 4, none⟩ = some (.int .i32 a0_4) := (blk_cell BK130.out 4).trans rfl; have hfz47_0 := blk_frozen BK130.out 0; have hfz47_1 := blk_frozen BK130.out 1; have hfz47_2 := blk_frozen BK130.out 2; have hfz47_3 := blk_frozen BK130.out 3; have hfz47_4 := blk_frozen BK130.out 4; go_wp2; go_ret
                 exact ⟨by first | rfl | (simp [errW_none, errW_some] <;> rfl) | (simp [*, errW_none, errW_some] <;> rfl), by repeat (first | (with_reducible first | exact HB.out | apply below_alloc | apply pw_below_drewN | apply below_drew1 | refine below_set ?_ GE130.out) | exact HB.out)⟩
                ·
                 rw [if_neg c46] at H
                 have c46b0 : decide (63 < a0_4) = false := decide_eq_false c46; clear c46
                 by_cases c48 : t131 = 4
                 ·
                  rw [if_pos c48] at H
                  have c48b0 : (t131 == 4) = true := beq_iff_eq.mpr c48; have c48b1 : (t131 != 4) = false := bne_eq_false_iff_eq.mpr c48; clear c48; obtain rfl := Option.some.inj H; have hcz49_0 : wc.cell? ⟨gb130, 0, none⟩ = some (.int .u8 a0_0) := (blk_cell BK130.out 0).trans rfl; have hcz49_1 : wc.cell? ⟨gb130, 1, none⟩ = some (.int .u8 a0_1) := (blk_cell BK130.out 1).trans rfl; have hcz49_2 : wc.cell? ⟨gb130, 2, none⟩ = some (.int .u8 a0_2) := (blk_cell BK130.out 2).trans rfl; have hcz49_3 : wc.cell? ⟨gb130, 3, none⟩ = some (.int .i16 a0_3) := (blk_cell BK130.out 3).trans rfl; have hcz49_4 : wc.cell? ⟨gb130, 4, none⟩ = some (.int .i32 a0_4) := (blk_cell BK130.out 4).trans rfl; have hfz49_0 := blk_frozen BK130.out 0; have hfz49_1 := blk_frozen BK130.out 1; have hfz49_2 := blk_frozen BK130.out 2; have hfz49_3 := blk_frozen BK130.out 3; have hfz49_4 := blk_frozen BK130.out 4; go_wp2; go_ret
                  exact ⟨by first | rfl | (simp [errW_none, errW_some] <;> rfl) | (simp [*, errW_none, errW_some] <;> rfl), by repeat (first | (with_reducible first | exact HB.out | apply below_alloc | apply pw_below_drewN | apply below_drew1 | refine below_set ?_ GE130.out) | exact HB.out)⟩
                 ·
                  rw [if_neg c48] at H
                  have c48b0 : (t131 == 4) = false := beq_eq_false_iff_ne.mpr c48; have c48b1 : (t131 != 4) = true := bne_iff_ne.mpr c48; obtain rfl := Option.some.inj H; have hcz50_0 : wc.cell? ⟨gb130, 0, none⟩ = some (.int .u8 a0_0) := (blk_cell BK130.out 0).trans rfl; have hcz50_1 : wc.cell? ⟨gb130, 1, none⟩ = some (.int .u8 a0_1) := (blk_cell BK130.out 1).trans rfl; have hcz50_2 : wc.cell? ⟨gb130, 2, none⟩ = some (.int .u8 a0_2) := (blk_cell BK130.out 2).trans rfl; have hcz50_3 : wc.cell? ⟨gb130, 3, none⟩ = some (.int .i16 a0_3) := (blk_cell BK130.out 3).trans rfl; have hcz50_4 : wc.cell? ⟨gb130, 4, none⟩ = some (.int .i32 a0_4) := (blk_cell BK130.out 4).trans rfl; have hfz50_0 := blk_frozen BK130.out 0; have hfz50_1 := blk_frozen BK130.out 1; have hfz50_2 := blk_frozen BK130.out 2; have hfz50_3 := blk_frozen BK130.out 3; have hfz50_4 := blk_frozen BK130.out 4; go_wp2; go_ret
                  exact ⟨by first | rfl | (simp [errW_none, errW_some] <;> rfl) | (simp [*, errW_none, errW_some] <;> rfl), by repeat (first | (with_reducible first | exact HB.out | apply below_alloc | apply pw_below_drewN | apply below_drew1 | refine below_set ?_ GE130.out) | exact HB.out)⟩
              ·
               rw [if_neg c43] at H
               have c43b0 : (t133 == 192) = false := beq_eq_false_iff_ne.mpr c43; have c43b1 : (t133 != 192) = true := bne_iff_ne.mpr c43; obtain rfl := Option.some.inj H; go_wp2; go_ret
               exact ⟨by first | rfl | (simp [errW_none, errW_some] <;> rfl) | (simp [*, errW_none, errW_some] <;> rfl), by repeat (first | (with_reducible first | exact HB.out | apply below_alloc | apply pw_below_drewN | apply below_drew1 | refine below_set ?_ GE130.out) | exact HB.out)⟩

end Go.Proofs.Ytmijlibnembkaaa.PA
