-- Printed by wip/tools/extprint.py over the kit's printer, with contracts of this session's own. Lean checks it.
import Derived.Test.YtmijlibnembkaaaMkPAx0
import Derived.Test.YtmijlibnembkaaaMkPAx3
namespace Go.Proofs.Ytmijlibnembkaaa.PA
open Go.RowKit Go.Proofs.YtmijlibnembkaaaW.PrintWords Go.Proofs.YtmijlibnembkaaaW.PrintLast Go.Proofs.YtmijlibnembkaaaW.PrintMore
attribute [local go_sem] max2_int min2_int max_two min_two max_three min_three max_four min_four   -- for this text's walks alone
set_option linter.unusedVariables false
set_option maxHeartbeats 8000000
set_option maxRecDepth 100000
set_option linter.unusedSimpArgs false

/-! ### shape_field: function 27 -/
mutual
def shape_field.j0 : Nat → Int → Bool → Int → Int → Int → Int → Int → Option (Bool)
 | 0, _, _, _, _, _, _, _ => none
 | k + 1, x3, x4, x135000, x135001, x135002, x135003, x135004 => if x135001 = 10 then (if x4 = true then (shape_field.j1 k x3 x4 true x135000 x135001 x135002 x135003 x135004) else (if x3 = 0 then (shape_field.j1 k x3 x4 true x135000 x135001 x135002 x135003 x135004) else (shape_field.j1 k x3 x4 (x3 == 1) x135000 x135001 x135002 x135003 x135004))) else (shape_field.j1 k x3 x4 false x135000 x135001 x135002 x135003 x135004)
def shape_field.j1 : Nat → Int → Bool → Bool → Int → Int → Int → Int → Int → Option (Bool)
 | 0, _, _, _, _, _, _, _, _ => none
 | k + 1, x3, x4, x27, x135000, x135001, x135002, x135003, x135004 => if x27 = true then (some true) else (if x4 = true then ((insn_ByReg.f x135000).bind fun t136 => (shape_field.j2 k x3 t136 x135000 x135001 x135002 x135003 x135004)) else (shape_field.j2 k x3 true x135000 x135001 x135002 x135003 x135004))
def shape_field.j2 : Nat → Int → Bool → Int → Int → Int → Int → Int → Option (Bool)
 | 0, _, _, _, _, _, _, _ => none
 | k + 1, x3, x34, x135000, x135001, x135002, x135003, x135004 => if x34 = true then (some false) else ((insn_Kind.f x135000).bind fun t137 => (if t137 = 48 then (shape_field.j3 k x3 t137 (t137 == 48) x135000 x135001 x135002 x135003 x135004) else (shape_field.j3 k x3 t137 (t137 == 144) x135000 x135001 x135002 x135003 x135004)))
def shape_field.j3 : Nat → Int → Int → Bool → Int → Int → Int → Int → Int → Option (Bool)
 | 0, _, _, _, _, _, _, _, _ => none
 | k + 1, x3, x37, x38, x135000, x135001, x135002, x135003, x135004 => if x38 = true then (some (x135004 == 0)) else (if x37 = 96 then (if x135004 < 0 then (some true) else (if x135004 > 63 then (some true) else (if x3 = 4 then (some (decide (x135004 > 31))) else (some false)))) else (if x37 = 112 then (if x135004 < 0 then (some true) else (if x135004 > 63 then (some true) else (if x3 = 4 then (some (decide (x135004 > 31))) else (some false)))) else (if x37 = 192 then (if x135004 < 0 then (some true) else (if x135004 > 63 then (some true) else (if x3 = 4 then (some (decide (x135004 > 31))) else (some false)))) else (some false))))
end
def shape_field.f (k : Nat) (a0_0 : Int) (a0_1 : Int) (a0_2 : Int) (a0_3 : Int) (a0_4 : Int) : Option (Bool) := (insn_Class.f a0_0).bind fun t135 => (if t135 = 4 then (shape_field.j0 k t135 true a0_0 a0_1 a0_2 a0_3 a0_4) else (shape_field.j0 k t135 (t135 == 7) a0_0 a0_1 a0_2 a0_3 a0_4))
theorem shape_field.mono_l : ∀ k, (∀ y0 y1 y2 y3 y4 y5 y6, LeO (shape_field.j0 k y0 y1 y2 y3 y4 y5 y6) (shape_field.j0 (k + 1) y0 y1 y2 y3 y4 y5 y6)) ∧ (∀ y0 y1 y2 y3 y4 y5 y6 y7, LeO (shape_field.j1 k y0 y1 y2 y3 y4 y5 y6 y7) (shape_field.j1 (k + 1) y0 y1 y2 y3 y4 y5 y6 y7)) ∧ (∀ y0 y1 y2 y3 y4 y5 y6, LeO (shape_field.j2 k y0 y1 y2 y3 y4 y5 y6) (shape_field.j2 (k + 1) y0 y1 y2 y3 y4 y5 y6)) ∧ (∀ y0 y1 y2 y3 y4 y5 y6 y7, LeO (shape_field.j3 k y0 y1 y2 y3 y4 y5 y6 y7) (shape_field.j3 (k + 1) y0 y1 y2 y3 y4 y5 y6 y7))
 | 0 => by refine ⟨?_, ?_, ?_, ?_⟩ <;> (intros; intro r h; simp [shape_field.j0, shape_field.j1, shape_field.j2, shape_field.j3] at h)
 | k + 1 => by
  obtain ⟨ih0, ih1, ih2, ih3⟩ := shape_field.mono_l k; refine ⟨?_, ?_, ?_, ?_⟩
  all_goals intros
  all_goals (first | unfold shape_field.j0 | unfold shape_field.j1 | unfold shape_field.j2 | unfold shape_field.j3)
  all_goals repeat' (with_reducible first | apply ih0 | apply ih1 | apply ih2 | apply ih3 | exact LeO.refl _ | exact LeO.none _ | refine LeO.ite ?_ ?_ | refine LeO.bind ?_ (fun _ => ?_))
theorem shape_field.mono : ∀ a0 a1 a2 a3 a4 k, LeO (shape_field.f k a0 a1 a2 a3 a4) (shape_field.f (k + 1) a0 a1 a2 a3 a4) := by
 intro a0 a1 a2 a3 a4 k; obtain ⟨ih0, ih1, ih2, ih3⟩ := shape_field.mono_l k
 unfold shape_field.f
 repeat' (with_reducible first | apply ih0 | apply ih1 | apply ih2 | apply ih3 | exact LeO.refl _ | exact LeO.none _ | refine LeO.ite ?_ ?_ | refine LeO.bind ?_ (fun _ => ?_))
theorem shape_field.calls (k : Nat) (a0_0 : Int) (a0_1 : Int) (a0_2 : Int) (a0_3 : Int) (a0_4 : Int) (r : Bool) (w : World) (h : shape_field.f k a0_0 a0_1 a0_2 a0_3 a0_4 = some r) :
  Calls Try.prog 27 #[.agg #[.int .u8 a0_0, .int .u8 a0_1, .int .u8 a0_2, .int .i16 a0_3, .int .i32 a0_4]] w fun e w' => e = .returned (.bool r) ∧ Below w.heap.size w w' := by
 have hu43 := Try.underlying43; have HB := Aside0.mk (Below.refl w.heap.size w); have H : ((insn_Class.f a0_0).bind fun t135 => (if t135 = 4 then (shape_field.j0 k t135 true a0_0 a0_1 a0_2 a0_3 a0_4) else (shape_field.j0 k t135 (t135 == 7) a0_0 a0_1 a0_2 a0_3 a0_4))) = some r := h; clear h; replace H := bs_ H; obtain ⟨t135, A2, H⟩ := H; (try dsimp only at H); have HC3 := Aside0.mk H; clear H; go_enter Try.func27, Try.ntmps27
 go_upto_region 2 with (first | ((with_reducible refine gate_dst (N := 1) rfl ?_); refine box_event ?hg (N := 1) ?hd (cs := #[.int .u8 a0_0, .int .u8 a0_1, .int .u8 a0_2, .int .i16 a0_3, .int .i32 a0_4]) (t := 43) ?hr ?_; (case hd => rfl); (case hg => rfl); (case hr => first | (go_simp; done) | (go_simp; rfl)); intro gb134 hg w4 hbox hb; have n_ : _ ∧ _ ∧ _ ∧ _ := ⟨k_ (below_step (bl_ HB.out) hb), k_ (hbox), k_ ((by rw [hg]; exact (below_size (bl_ HB.out)) : w.heap.size ≤ gb134)), k_ ((by rw [hg]; exact (below_size (bl_ HB.out)) : w.heap.size ≤ gb134))⟩; clear HB; obtain ⟨HB, BK134, GW134, GE134⟩ := n_; clear hb hbox hg; obtain ⟨⟨hcz5_0, hcz5_1, hcz5_2, hcz5_3, hcz5_4⟩, hfz5_0, hfz5_1, hfz5_2, hfz5_3, hfz5_4⟩ := blk5_ BK134.out) | ((with_reducible refine gate_callee (f := 48) rfl ?_); refine goesL_ (some 7) rfl rfl Try.func48 (by kernel_rfl) rfl #[.int .u8 a0_0] rfl am_ ?_; (with_reducible refine (insn_Class.calls a0_0 t135 _ A2.out).mono ?_); rintro e w' ⟨rfl, ⟨nd, rfl⟩⟩; refine ⟨_, rfl, ?_⟩))
 (try simp only [Act.put, List.setIfInBounds_toArray, List.set_cons_zero, List.set_cons_succ]); go_cut [4] (fun v4 wc => ∃ (kq : Nat) (x4_2 : Bool), v4 = .bool x4_2 ∧ Aside0 (shape_field.j0 kq t135 x4_2 a0_0 a0_1 a0_2 a0_3 a0_4 = some r) ∧ Aside0 (kq ≤ k) ∧ Aside0 (wc.heap[gb134]? = some (.cells #[.int .u8 a0_0, .int .u8 a0_1, .int .u8 a0_2, .int .i16 a0_3, .int .i32 a0_4] 43 (0, 0))) ∧ Aside0 (Below w.heap.size w wc))
 case first =>
  have H := HC3.out; clear HC3
  by_cases c6 : t135 = 4
  ·
   rw [if_pos c6] at H
   have ⟨c6b0, c6b1⟩ := eqb_ c6; clear c6; (first | rw [c6b0] | (simp only [i64_w, i32_w]; rw [c6b0]) | skip); have H' := Aside0.mk H; clear H; go_wp2; go_meet
   case rel => exact ⟨_, (true), eq_, H', ⟨by first | omega | exact Nat.le_refl _⟩, ⟨bk_ BK134.out⟩, ⟨bm_ HB.out GE134.out⟩⟩
  ·
   rw [if_neg c6] at H
   have ⟨c6b0, c6b1⟩ := nqb_ c6; (first | rw [c6b0] | (simp only [i64_w, i32_w]; rw [c6b0]) | skip); have H' := Aside0.mk H; clear H; go_wp2; go_meet
   case rel => exact ⟨_, ((t135 == 7)), eq_, H', ⟨by first | omega | exact Nat.le_refl _⟩, ⟨bk_ BK134.out⟩, ⟨bm_ HB.out GE134.out⟩⟩
 case rest =>
  clear HC3 hcz5_0 hcz5_1 hcz5_2 hcz5_3 hcz5_4 hfz5_0 hfz5_1 hfz5_2 hfz5_3 hfz5_4; obtain ⟨kq, x4_2, rfl, HA, HJ2, BK134, HB⟩ := hcut
  cases kq with
  | zero => exact absurd HA.out (by simp [shape_field.j0])
  | succ kj2 =>
   have H := HA.out; clear HA; simp only [shape_field.j0] at H; have HC7 := Aside0.mk H; clear H; go_upto_region 3 with (fail)
   go_cut [27] (fun v27 wc => ∃ (kq : Nat) (x27_6 : Bool), v27 = .bool x27_6 ∧ Aside0 (shape_field.j1 kq t135 x4_2 x27_6 a0_0 a0_1 a0_2 a0_3 a0_4 = some r) ∧ Aside0 (kq ≤ kj2) ∧ Aside0 (wc.heap[gb134]? = some (.cells #[.int .u8 a0_0, .int .u8 a0_1, .int .u8 a0_2, .int .i16 a0_3, .int .i32 a0_4] 43 (0, 0))) ∧ Aside0 (Below w.heap.size w wc))
   case first =>
    have H := HC7.out; clear HC7
    by_cases c8 : a0_1 = 10
    ·
     rw [if_pos c8] at H
     have ⟨c8b0, c8b1⟩ := eqb_ c8; clear c8; (first | rw [c8b0] | (simp only [i64_w, i32_w]; rw [c8b0]) | skip)
     by_cases c9 : x4_2 = true
     ·
      subst c9
      rw [if_pos rfl] at H; have H' := Aside0.mk H; clear H; obtain ⟨⟨hcz10_0, hcz10_1, hcz10_2, hcz10_3, hcz10_4⟩, hfz10_0, hfz10_1, hfz10_2, hfz10_3, hfz10_4⟩ := blk5_ BK134.out; go_wp2; go_meet
      case rel => exact ⟨_, (true), eq_, H', ⟨by have := HJ2.out; first | omega | exact Nat.le_refl _⟩, ⟨bk_ BK134.out⟩, ⟨bm_ HB.out GE134.out⟩⟩
     ·
      replace c9 := Bool.eq_false_iff.mpr c9
      subst c9; rw [if_neg (show ¬ (false = true) by decide)] at H
      by_cases c11 : t135 = 0
      ·
       rw [if_pos c11] at H
       have ⟨c11b0, c11b1⟩ := eqb_ c11; clear c11; have H' := Aside0.mk H; clear H; obtain ⟨⟨hcz12_0, hcz12_1, hcz12_2, hcz12_3, hcz12_4⟩, hfz12_0, hfz12_1, hfz12_2, hfz12_3, hfz12_4⟩ := blk5_ BK134.out; go_wp2; go_meet
       case rel => exact ⟨_, (true), eq_, H', ⟨by have := HJ2.out; first | omega | exact Nat.le_refl _⟩, ⟨bk_ BK134.out⟩, ⟨bm_ HB.out GE134.out⟩⟩
      ·
       rw [if_neg c11] at H
       have ⟨c11b0, c11b1⟩ := nqb_ c11; have H' := Aside0.mk H; clear H; obtain ⟨⟨hcz13_0, hcz13_1, hcz13_2, hcz13_3, hcz13_4⟩, hfz13_0, hfz13_1, hfz13_2, hfz13_3, hfz13_4⟩ := blk5_ BK134.out; go_wp2; go_meet
       case rel => exact ⟨_, ((t135 == 1)), eq_, H', ⟨by have := HJ2.out; first | omega | exact Nat.le_refl _⟩, ⟨bk_ BK134.out⟩, ⟨bm_ HB.out GE134.out⟩⟩
    ·
     rw [if_neg c8] at H
     have ⟨c8b0, c8b1⟩ := nqb_ c8; (first | rw [c8b0] | (simp only [i64_w, i32_w]; rw [c8b0]) | skip); have H' := Aside0.mk H; clear H; obtain ⟨⟨hcz14_0, hcz14_1, hcz14_2, hcz14_3, hcz14_4⟩, hfz14_0, hfz14_1, hfz14_2, hfz14_3, hfz14_4⟩ := blk5_ BK134.out; go_wp2; go_meet
     case rel => exact ⟨_, (false), eq_, H', ⟨by have := HJ2.out; first | omega | exact Nat.le_refl _⟩, ⟨bk_ BK134.out⟩, ⟨bm_ HB.out GE134.out⟩⟩
   case rest =>
    clear HC7; obtain ⟨kq, x27_6, rfl, HA, HJ6, BK134, HB⟩ := hcut
    cases kq with
    | zero => exact absurd HA.out (by simp [shape_field.j1])
    | succ kj6 =>
     have H := HA.out; clear HA; simp only [shape_field.j1] at H
     by_cases c15 : x27_6 = true
     ·
      subst c15
      rw [if_pos rfl] at H; obtain rfl := Option.some.inj H; go_wp2; go_ret
      exact ⟨rr_, bm_ HB.out GE134.out⟩
     ·
      replace c15 := Bool.eq_false_iff.mpr c15
      subst c15; rw [if_neg (show ¬ (false = true) by decide)] at H; have HC16 := Aside0.mk H; clear H; go_upto_region 5 with (fail)
      go_cut [34] (fun v34 wc => ∃ (kq : Nat) (x34_15 : Bool), v34 = .bool x34_15 ∧ Aside0 (shape_field.j2 kq t135 x34_15 a0_0 a0_1 a0_2 a0_3 a0_4 = some r) ∧ Aside0 (kq ≤ kj6) ∧ Aside0 (wc.heap[gb134]? = some (.cells #[.int .u8 a0_0, .int .u8 a0_1, .int .u8 a0_2, .int .i16 a0_3, .int .i32 a0_4] 43 (0, 0))) ∧ Aside0 (Below w.heap.size w wc))
      case first =>
       have H := HC16.out; clear HC16
       by_cases c17 : x4_2 = true
       ·
        subst c17
        rw [if_pos rfl] at H; replace H := bs_ H; obtain ⟨t136, A18, H⟩ := H; (try dsimp only at H); have H' := Aside0.mk H; clear H; obtain ⟨⟨hcz19_0, hcz19_1, hcz19_2, hcz19_3, hcz19_4⟩, hfz19_0, hfz19_1, hfz19_2, hfz19_3, hfz19_4⟩ := blk5_ BK134.out; go_wp2_with (first | (go_at_call 49; (with_reducible refine (insn_ByReg.calls a0_0 t136 _ A18.out).mono ?_); rintro e w' ⟨rfl, ⟨nd, rfl⟩⟩))
        go_meet
        case rel => exact ⟨_, (t136), eq_, H', ⟨by have := HJ2.out; have := HJ6.out; first | omega | exact Nat.le_refl _⟩, ⟨bk_ BK134.out⟩, ⟨bm_ HB.out GE134.out⟩⟩
       ·
        replace c17 := Bool.eq_false_iff.mpr c17
        subst c17; rw [if_neg (show ¬ (false = true) by decide)] at H; have H' := Aside0.mk H; clear H; go_wp2; go_meet
        case rel => exact ⟨_, (true), eq_, H', ⟨by have := HJ2.out; have := HJ6.out; first | omega | exact Nat.le_refl _⟩, ⟨bk_ BK134.out⟩, ⟨bm_ HB.out GE134.out⟩⟩
      case rest =>
       clear HC16; obtain ⟨kq, x34_15, rfl, HA, HJ15, BK134, HB⟩ := hcut
       cases kq with
       | zero => exact absurd HA.out (by simp [shape_field.j2])
       | succ kj15 =>
        have H := HA.out; clear HA; simp only [shape_field.j2] at H
        by_cases c20 : x34_15 = true
        ·
         subst c20
         rw [if_pos rfl] at H; obtain rfl := Option.some.inj H; go_wp2; go_ret
         exact ⟨rr_, bm_ HB.out GE134.out⟩
        ·
         replace c20 := Bool.eq_false_iff.mpr c20
         subst c20; rw [if_neg (show ¬ (false = true) by decide)] at H; replace H := bs_ H; obtain ⟨t137, A21, H⟩ := H; (try dsimp only at H); have HC22 := Aside0.mk H; clear H; obtain ⟨⟨hcz23_0, hcz23_1, hcz23_2, hcz23_3, hcz23_4⟩, hfz23_0, hfz23_1, hfz23_2, hfz23_3, hfz23_4⟩ := blk5_ BK134.out; go_upto_if 38 with (first | ((with_reducible refine gate_callee (f := 50) rfl ?_); refine goesL_ (some 37) rfl rfl Try.func50 (by kernel_rfl) rfl #[.int .u8 a0_0] rfl am_ ?_; (with_reducible refine (insn_Kind.calls a0_0 t137 _ A21.out).mono ?_); rintro e w' ⟨rfl, ⟨nd, rfl⟩⟩; refine ⟨_, rfl, ?_⟩))
         (try simp only [Act.put, List.setIfInBounds_toArray, List.set_cons_zero, List.set_cons_succ]); go_cut [38] (fun v38 wc => ∃ (kq : Nat) (x38_21 : Bool), v38 = .bool x38_21 ∧ Aside0 (shape_field.j3 kq t135 t137 x38_21 a0_0 a0_1 a0_2 a0_3 a0_4 = some r) ∧ Aside0 (kq ≤ kj15) ∧ Aside0 (wc.heap[gb134]? = some (.cells #[.int .u8 a0_0, .int .u8 a0_1, .int .u8 a0_2, .int .i16 a0_3, .int .i32 a0_4] 43 (0, 0))) ∧ Aside0 (Below w.heap.size w wc))
         case first =>
          have H := HC22.out; clear HC22
          by_cases c24 : t137 = 48
          ·
           rw [if_pos c24] at H
           have ⟨c24b0, c24b1⟩ := eqb_ c24; clear c24; (first | rw [c24b0] | (simp only [i64_w, i32_w]; rw [c24b0]) | skip); have H' := Aside0.mk H; clear H; go_wp2; go_meet
           case rel => exact ⟨_, ((t137 == 48)), eq_, H', ⟨by have := HJ2.out; have := HJ6.out; have := HJ15.out; first | omega | exact Nat.le_refl _⟩, ⟨bk_ BK134.out⟩, ⟨bm_ HB.out GE134.out⟩⟩
          ·
           rw [if_neg c24] at H
           have ⟨c24b0, c24b1⟩ := nqb_ c24; (first | rw [c24b0] | (simp only [i64_w, i32_w]; rw [c24b0]) | skip); have H' := Aside0.mk H; clear H; go_wp2; go_meet
           case rel => exact ⟨_, ((t137 == 144)), eq_, H', ⟨by have := HJ2.out; have := HJ6.out; have := HJ15.out; first | omega | exact Nat.le_refl _⟩, ⟨bk_ BK134.out⟩, ⟨bm_ HB.out GE134.out⟩⟩
         case rest =>
          clear HC22 hcz23_0 hcz23_1 hcz23_2 hcz23_3 hcz23_4 hfz23_0 hfz23_1 hfz23_2 hfz23_3 hfz23_4; obtain ⟨kq, x38_21, rfl, HA, HJ21, BK134, HB⟩ := hcut
          cases kq with
          | zero => exact absurd HA.out (by simp [shape_field.j3])
          | succ kj21 =>
           have H := HA.out; clear HA; simp only [shape_field.j3] at H
           by_cases c25 : x38_21 = true
           ·
            subst c25
            rw [if_pos rfl] at H; obtain rfl := Option.some.inj H; obtain ⟨⟨hcz26_0, hcz26_1, hcz26_2, hcz26_3, hcz26_4⟩, hfz26_0, hfz26_1, hfz26_2, hfz26_3, hfz26_4⟩ := blk5_ BK134.out; go_wp2; go_ret
            exact ⟨rr_, bm_ HB.out GE134.out⟩
           ·
            replace c25 := Bool.eq_false_iff.mpr c25
            subst c25; rw [if_neg (show ¬ (false = true) by decide)] at H
            by_cases c27 : t137 = 96
            ·
             rw [if_pos c27] at H
             have ⟨c27b0, c27b1⟩ := eqb_ c27; clear c27
             by_cases c28 : a0_4 < 0
             ·
              rw [if_pos c28] at H
              have c28b0 := decide_eq_true c28; clear c28; obtain rfl := Option.some.inj H; obtain ⟨⟨hcz29_0, hcz29_1, hcz29_2, hcz29_3, hcz29_4⟩, hfz29_0, hfz29_1, hfz29_2, hfz29_3, hfz29_4⟩ := blk5_ BK134.out; go_wp2; go_ret
              exact ⟨rr_, bm_ HB.out GE134.out⟩
             ·
              rw [if_neg c28] at H
              have c28b0 := decide_eq_false c28; clear c28
              by_cases c30 : a0_4 > 63
              ·
               rw [if_pos c30] at H
               have c30b0 := decide_eq_true c30; clear c30; obtain rfl := Option.some.inj H; obtain ⟨⟨hcz31_0, hcz31_1, hcz31_2, hcz31_3, hcz31_4⟩, hfz31_0, hfz31_1, hfz31_2, hfz31_3, hfz31_4⟩ := blk5_ BK134.out; go_wp2; go_ret
               exact ⟨rr_, bm_ HB.out GE134.out⟩
              ·
               rw [if_neg c30] at H
               have c30b0 := decide_eq_false c30; clear c30
               by_cases c32 : t135 = 4
               ·
                rw [if_pos c32] at H
                have ⟨c32b0, c32b1⟩ := eqb_ c32; clear c32; obtain rfl := Option.some.inj H; obtain ⟨⟨hcz33_0, hcz33_1, hcz33_2, hcz33_3, hcz33_4⟩, hfz33_0, hfz33_1, hfz33_2, hfz33_3, hfz33_4⟩ := blk5_ BK134.out; go_wp2; go_ret
                exact ⟨rr_, bm_ HB.out GE134.out⟩
               ·
                rw [if_neg c32] at H
                have ⟨c32b0, c32b1⟩ := nqb_ c32; obtain rfl := Option.some.inj H; obtain ⟨⟨hcz34_0, hcz34_1, hcz34_2, hcz34_3, hcz34_4⟩, hfz34_0, hfz34_1, hfz34_2, hfz34_3, hfz34_4⟩ := blk5_ BK134.out; go_wp2; go_ret
                exact ⟨rr_, bm_ HB.out GE134.out⟩
            ·
             rw [if_neg c27] at H
             have ⟨c27b0, c27b1⟩ := nqb_ c27
             by_cases c35 : t137 = 112
             ·
              rw [if_pos c35] at H
              have ⟨c35b0, c35b1⟩ := eqb_ c35; clear c35
              by_cases c36 : a0_4 < 0
              ·
               rw [if_pos c36] at H
               have c36b0 := decide_eq_true c36; clear c36; obtain rfl := Option.some.inj H; obtain ⟨⟨hcz37_0, hcz37_1, hcz37_2, hcz37_3, hcz37_4⟩, hfz37_0, hfz37_1, hfz37_2, hfz37_3, hfz37_4⟩ := blk5_ BK134.out; go_wp2; go_ret
               exact ⟨rr_, bm_ HB.out GE134.out⟩
              ·
               rw [if_neg c36] at H
               have c36b0 := decide_eq_false c36; clear c36
               by_cases c38 : a0_4 > 63
               ·
                rw [if_pos c38] at H
                have c38b0 := decide_eq_true c38; clear c38; obtain rfl := Option.some.inj H; obtain ⟨⟨hcz39_0, hcz39_1, hcz39_2, hcz39_3, hcz39_4⟩, hfz39_0, hfz39_1, hfz39_2, hfz39_3, hfz39_4⟩ := blk5_ BK134.out; go_wp2; go_ret
                exact ⟨rr_, bm_ HB.out GE134.out⟩
               ·
                rw [if_neg c38] at H
                have c38b0 := decide_eq_false c38; clear c38
                by_cases c40 : t135 = 4
                ·
                 rw [if_pos c40] at H
                 have ⟨c40b0, c40b1⟩ := eqb_ c40; clear c40; obtain rfl := Option.some.inj H; obtain ⟨⟨hcz41_0, hcz41_1, hcz41_2, hcz41_3, hcz41_4⟩, hfz41_0, hfz41_1, hfz41_2, hfz41_3, hfz41_4⟩ := blk5_ BK134.out; go_wp2; go_ret
                 exact ⟨rr_, bm_ HB.out GE134.out⟩
                ·
                 rw [if_neg c40] at H
                 have ⟨c40b0, c40b1⟩ := nqb_ c40; obtain rfl := Option.some.inj H; obtain ⟨⟨hcz42_0, hcz42_1, hcz42_2, hcz42_3, hcz42_4⟩, hfz42_0, hfz42_1, hfz42_2, hfz42_3, hfz42_4⟩ := blk5_ BK134.out; go_wp2; go_ret
                 exact ⟨rr_, bm_ HB.out GE134.out⟩
             ·
              rw [if_neg c35] at H
              have ⟨c35b0, c35b1⟩ := nqb_ c35
              by_cases c43 : t137 = 192
              ·
               rw [if_pos c43] at H
               have ⟨c43b0, c43b1⟩ := eqb_ c43; clear c43
               by_cases c44 : a0_4 < 0
               ·
                rw [if_pos c44] at H
                have c44b0 := decide_eq_true c44; clear c44; obtain rfl := Option.some.inj H; obtain ⟨⟨hcz45_0, hcz45_1, hcz45_2, hcz45_3, hcz45_4⟩, hfz45_0, hfz45_1, hfz45_2, hfz45_3, hfz45_4⟩ := blk5_ BK134.out; go_wp2; go_ret
                exact ⟨rr_, bm_ HB.out GE134.out⟩
               ·
                rw [if_neg c44] at H
                have c44b0 := decide_eq_false c44; clear c44
                by_cases c46 : a0_4 > 63
                ·
                 rw [if_pos c46] at H
                 have c46b0 := decide_eq_true c46; clear c46; obtain rfl := Option.some.inj H; obtain ⟨⟨hcz47_0, hcz47_1, hcz47_2, hcz47_3, hcz47_4⟩, hfz47_0, hfz47_1, hfz47_2, hfz47_3, hfz47_4⟩ := blk5_ BK134.out; go_wp2; go_ret
                 exact ⟨rr_, bm_ HB.out GE134.out⟩
                ·
                 rw [if_neg c46] at H
                 have c46b0 := decide_eq_false c46; clear c46
                 by_cases c48 : t135 = 4
                 ·
                  rw [if_pos c48] at H
                  have ⟨c48b0, c48b1⟩ := eqb_ c48; clear c48; obtain rfl := Option.some.inj H; obtain ⟨⟨hcz49_0, hcz49_1, hcz49_2, hcz49_3, hcz49_4⟩, hfz49_0, hfz49_1, hfz49_2, hfz49_3, hfz49_4⟩ := blk5_ BK134.out; go_wp2; go_ret
                  exact ⟨rr_, bm_ HB.out GE134.out⟩
                 ·
                  rw [if_neg c48] at H
                  have ⟨c48b0, c48b1⟩ := nqb_ c48; obtain rfl := Option.some.inj H; obtain ⟨⟨hcz50_0, hcz50_1, hcz50_2, hcz50_3, hcz50_4⟩, hfz50_0, hfz50_1, hfz50_2, hfz50_3, hfz50_4⟩ := blk5_ BK134.out; go_wp2; go_ret
                  exact ⟨rr_, bm_ HB.out GE134.out⟩
              ·
               rw [if_neg c43] at H
               have ⟨c43b0, c43b1⟩ := nqb_ c43; obtain rfl := Option.some.inj H; go_wp2; go_ret
               exact ⟨rr_, bm_ HB.out GE134.out⟩

end Go.Proofs.Ytmijlibnembkaaa.PA
