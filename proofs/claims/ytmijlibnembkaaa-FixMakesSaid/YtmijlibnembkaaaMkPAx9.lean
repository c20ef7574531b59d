-- Printed by wip/tools/extprint.py over the kit's printer, with contracts of this session's own. Lean checks it.
import Derived.Test.YtmijlibnembkaaaMkPAx0
import Derived.Test.YtmijlibnembkaaaMkPAx3
import Derived.Test.YtmijlibnembkaaaMkPAx5
import Derived.Test.YtmijlibnembkaaaMkPAx6
import Derived.Test.YtmijlibnembkaaaMkPAx7
import Derived.Test.YtmijlibnembkaaaMkPAx8
namespace Go.Proofs.Ytmijlibnembkaaa.PA
open Go.RowKit Go.Proofs.YtmijlibnembkaaaW.PrintWords Go.Proofs.YtmijlibnembkaaaW.PrintLast Go.Proofs.YtmijlibnembkaaaW.PrintMore
attribute [local go_sem] max2_int min2_int max_two min_two max_three min_three max_four min_four   -- for this text's walks alone
set_option linter.unusedVariables false
set_option maxHeartbeats 8000000
set_option maxRecDepth 100000
set_option linter.unusedSimpArgs false

/-! ### shape_Check: function 15 -/
mutual
def shape_Check.j0 : Nat → List (S43) → Bool → Option (Int × Int)
 | 0, _, _ => none
 | k + 1, x0, x30 => if x30 = true then (some (0, 40)) else (shape_Check.l0 k x0 0)
def shape_Check.l0 : Nat → List (S43) → Int → Option (Int × Int)
 | 0, _, _ => none
 | k + 1, x0, x4 => if x4 < (x0.length : Int) then ((insn_Plain.f k x0 x4).bind fun bt160 => (if bt160.2 = 0 then (if 0 ≤ x4 then ((shape_field.f k ((rd_T43 x0 x4).f0) ((rd_T43 x0 x4).f1) ((rd_T43 x0 x4).f2) ((rd_T43 x0 x4).f3) ((rd_T43 x0 x4).f4)).bind fun t163 => (shape_Check.j2 k x0 x4 bt160.1 bt160.2 t163)) else (none)) else (shape_Check.j2 k x0 x4 bt160.1 bt160.2 false))) else ((shape_Starts.f k x0).bind fun t164 => ((shape_Parts.f k x0).bind fun t167 => (shape_Check.l1 k x0 t164 t167 t164 (t164.length : Int) 0)))
def shape_Check.j2 : Nat → List (S43) → Int → Int → Int → Bool → Option (Int × Int)
 | 0, _, _, _, _, _ => none
 | k + 1, x0, x4, x5, x6, x49 => if x49 = true then (some (x4, 42)) else (if x6 = 0 then (shape_Check.l0 k x0 (wrap64 (x4 + x5))) else (some (x4, x6)))
def shape_Check.l1 : Nat → List (S43) → List Bool → List Int → List Bool → Int → Int → Option (Int × Int)
 | 0, _, _, _, _, _, _ => none
 | k + 1, x0, x7, x8, x61, x62, x63 => if x63 < x62 then (if 0 ≤ x63 then (if x63 < (x61.length : Int) then (if x63 < (x0.length : Int) then ((shape_jumps.f k ((rd_T43 x0 x63).f0) ((rd_T43 x0 x63).f1) ((rd_T43 x0 x63).f2) ((rd_T43 x0 x63).f3) ((rd_T43 x0 x63).f4)).bind fun bt172 => (if rdOf false x61 x63 = true then (shape_Check.j4 k x0 x7 x8 x63 x61 x62 x63 bt172.2) else (shape_Check.j4 k x0 x7 x8 x63 x61 x62 x63 false))) else (none)) else (none)) else (none)) else (shape_Check.l2 k x0 x7 x8 x7 (x7.length : Int) 0)
def shape_Check.j4 : Nat → List (S43) → List Bool → List Int → Int → List Bool → Int → Int → Bool → Option (Int × Int)
 | 0, _, _, _, _, _, _, _, _ => none
 | k + 1, x0, x7, x8, x9, x61, x62, x63, x79 => if x79 = true then ((shape_target.f k x0 x9).bind fun bt174 => (if bt174.2 = true then (if 0 ≤ bt174.1 then (if bt174.1 < (x7.length : Int) then (if rdOf false x7 bt174.1 = true then (shape_Check.l1 k x0 x7 x8 x61 x62 (wrap64 (x63 + 1))) else (some (x9, 43))) else (none)) else (none)) else (some (x9, 43)))) else (shape_Check.l1 k x0 x7 x8 x61 x62 (wrap64 (x63 + 1)))
def shape_Check.l2 : Nat → List (S43) → List Bool → List Int → List Bool → Int → Int → Option (Int × Int)
 | 0, _, _, _, _, _, _ => none
 | k + 1, x0, x7, x8, x98, x99, x100 => if x100 < x99 then (if 0 ≤ x100 then (if x100 < (x98.length : Int) then ((shape_target.f k x0 x100).bind fun bt178 => (if rdOf false x98 x100 = true then (if bt178.2 = true then (if x100 < (x0.length : Int) then (if ((rd_T43 x0 x100).f0) = 133 then (shape_Check.l2 k x0 x7 x8 x98 x99 (wrap64 (x100 + 1))) else ((shape_part.f x8 bt178.1).bind fun t181 => ((shape_part.f x8 x100).bind fun t182 => (if t181 = t182 then (shape_Check.l2 k x0 x7 x8 x98 x99 (wrap64 (x100 + 1))) else (some (x100, 43)))))) else (none)) else (shape_Check.l2 k x0 x7 x8 x98 x99 (wrap64 (x100 + 1)))) else (shape_Check.l2 k x0 x7 x8 x98 x99 (wrap64 (x100 + 1))))) else (none)) else (none)) else (shape_Check.l3 k x0 x7 x8 (x8.length : Int) 0)
def shape_Check.l3 : Nat → List (S43) → List Bool → List Int → Int → Int → Option (Int × Int)
 | 0, _, _, _, _, _ => none
 | k + 1, x0, x7, x8, x135, x136 => if x136 < x135 then (if (wrap64 (x136 + 1)) < (x8.length : Int) then (if 0 ≤ (wrap64 (x136 + 1)) then (shape_Check.j7 k x0 x7 x8 (rd x8 (wrap64 (x136 + 1))) x135 x136) else (none)) else (shape_Check.j7 k x0 x7 x8 (x0.length : Int) x135 x136)) else (some (0, 0))
def shape_Check.j7 : Nat → List (S43) → List Bool → List Int → Int → Int → Int → Option (Int × Int)
 | 0, _, _, _, _, _, _ => none
 | k + 1, x0, x7, x8, x21, x135, x136 => shape_Check.l4 k x0 x7 x8 (wrap64 (x21 - 1)) x135 x136
def shape_Check.l4 : Nat → List (S43) → List Bool → List Int → Int → Int → Int → Option (Int × Int)
 | 0, _, _, _, _, _, _ => none
 | k + 1, x0, x7, x8, x21, x135, x136 => if 0 ≤ x21 then (if x21 < (x7.length : Int) then (if rdOf false x7 x21 = true then (if x21 < (x0.length : Int) then (if ((rd_T43 x0 x21).f0) = 149 then (shape_Check.l3 k x0 x7 x8 x135 (wrap64 (x136 + 1))) else (if ((rd_T43 x0 x21).f0) = 5 then (shape_Check.l3 k x0 x7 x8 x135 (wrap64 (x136 + 1))) else (some (x21, 44)))) else (none)) else (shape_Check.l4 k x0 x7 x8 (wrap64 (x21 - 1)) x135 x136)) else (none)) else (none)
end
def shape_Check.f (k : Nat) (l0 : List (S43)) : Option (Int × Int) := if (l0.length : Int) = 0 then (shape_Check.j0 k l0 true) else (shape_Check.j0 k l0 (decide ((l0.length : Int) > 256)))
theorem shape_Check.mono_l : ∀ k, (∀ y0 y1, LeO (shape_Check.j0 k y0 y1) (shape_Check.j0 (k + 1) y0 y1)) ∧ (∀ y0 y1, LeO (shape_Check.l0 k y0 y1) (shape_Check.l0 (k + 1) y0 y1)) ∧ (∀ y0 y1 y2 y3 y4, LeO (shape_Check.j2 k y0 y1 y2 y3 y4) (shape_Check.j2 (k + 1) y0 y1 y2 y3 y4)) ∧ (∀ y0 y1 y2 y3 y4 y5, LeO (shape_Check.l1 k y0 y1 y2 y3 y4 y5) (shape_Check.l1 (k + 1) y0 y1 y2 y3 y4 y5)) ∧ (∀ y0 y1 y2 y3 y4 y5 y6 y7, LeO (shape_Check.j4 k y0 y1 y2 y3 y4 y5 y6 y7) (shape_Check.j4 (k + 1) y0 y1 y2 y3 y4 y5 y6 y7)) ∧ (∀ y0 y1 y2 y3 y4 y5, LeO (shape_Check.l2 k y0 y1 y2 y3 y4 y5) (shape_Check.l2 (k + 1) y0 y1 y2 y3 y4 y5)) ∧ (∀ y0 y1 y2 y3 y4, LeO (shape_Check.l3 k y0 y1 y2 y3 y4) (shape_Check.l3 (k + 1) y0 y1 y2 y3 y4)) ∧ (∀ y0 y1 y2 y3 y4 y5, LeO (shape_Check.j7 k y0 y1 y2 y3 y4 y5) (shape_Check.j7 (k + 1) y0 y1 y2 y3 y4 y5)) ∧ (∀ y0 y1 y2 y3 y4 y5, LeO (shape_Check.l4 k y0 y1 y2 y3 y4 y5) (shape_Check.l4 (k + 1) y0 y1 y2 y3 y4 y5))
 | 0 => by refine ⟨?_, ?_, ?_, ?_, ?_, ?_, ?_, ?_, ?_⟩ <;> (intros; intro r h; simp [shape_Check.j0, shape_Check.l0, shape_Check.j2, shape_Check.l1, shape_Check.j4, shape_Check.l2, shape_Check.l3, shape_Check.j7, shape_Check.l4] at h)
 | k + 1 => by
  obtain ⟨ih0, ih1, ih2, ih3, ih4, ih5, ih6, ih7, ih8⟩ := shape_Check.mono_l k; refine ⟨?_, ?_, ?_, ?_, ?_, ?_, ?_, ?_, ?_⟩
  all_goals intros
  all_goals (first | unfold shape_Check.j0 | unfold shape_Check.l0 | unfold shape_Check.j2 | unfold shape_Check.l1 | unfold shape_Check.j4 | unfold shape_Check.l2 | unfold shape_Check.l3 | unfold shape_Check.j7 | unfold shape_Check.l4)
  all_goals repeat' (with_reducible first | apply ih0 | apply ih1 | apply ih2 | apply ih3 | apply ih4 | apply ih5 | apply ih6 | apply ih7 | apply ih8 | apply insn_Plain.mono | apply shape_Parts.mono | apply shape_Starts.mono | apply shape_field.mono | apply shape_jumps.mono | apply shape_target.mono | exact LeO.refl _ | exact LeO.none _ | refine LeO.ite ?_ ?_ | refine LeO.bind ?_ (fun _ => ?_))
theorem shape_Check.mono : ∀ a0 k, LeO (shape_Check.f k a0) (shape_Check.f (k + 1) a0) := by
 intro a0 k; obtain ⟨ih0, ih1, ih2, ih3, ih4, ih5, ih6, ih7, ih8⟩ := shape_Check.mono_l k
 unfold shape_Check.f
 repeat' (with_reducible first | apply ih0 | apply ih1 | apply ih2 | apply ih3 | apply ih4 | apply ih5 | apply ih6 | apply ih7 | apply ih8 | apply insn_Plain.mono | apply shape_Parts.mono | apply shape_Starts.mono | apply shape_field.mono | apply shape_jumps.mono | apply shape_target.mono | exact LeO.refl _ | exact LeO.none _ | refine LeO.ite ?_ ?_ | refine LeO.bind ?_ (fun _ => ?_))
theorem shape_Check.calls (k : Nat) (A0 : Option Addr) (c0 : Nat) (l0 : List (S43)) (r1 : Int) (r2 : Int) (w : World) (hr0 : Kd.C k43 w A0 l0.length l0) (hc0 : l0.length ≤ c0) (h : shape_Check.f k l0 = some (r1, r2)) :
  Calls Try.prog 15 #[.slice A0 l0.length c0] w fun e w' => e = .returned (.tuple #[.int .i64 r1, .int .i64 r2]) ∧ Below w.heap.size w w' := by
 have hu43 := Try.underlying43; have HR0 := Aside0.mk hr0; have HC0 := Aside0.mk hc0; clear hr0 hc0; have HB := Aside0.mk (Below.refl w.heap.size w); have H : (if (l0.length : Int) = 0 then (shape_Check.j0 k l0 true) else (shape_Check.j0 k l0 (decide ((l0.length : Int) > 256)))) = some (r1, r2) := h; clear h; have HC2 := Aside0.mk H; clear H; go_enter Try.func15, Try.ntmps15
 go_upto_region 1 with (fail)
 go_cut [30] (fun v30 wc => ∃ (kq : Nat) (x30_1 : Bool), v30 = .bool x30_1 ∧ Aside0 (shape_Check.j0 kq l0 x30_1 = some (r1, r2)) ∧ Aside0 (kq ≤ k) ∧ Aside0 (Below w.heap.size w wc))
 case first =>
  have H := HC2.out; clear HC2
  by_cases c3 : (l0.length : Int) = 0
  ·
   rw [if_pos c3] at H
   have ⟨c3b0, c3b1⟩ := eqb_ c3; clear c3; (first | rw [c3b0] | (simp only [i64_w, i32_w]; rw [c3b0]) | skip); have H' := Aside0.mk H; clear H; go_wp2; go_meet
   case rel => exact ⟨_, (true), eq_, H', ⟨by first | omega | exact Nat.le_refl _⟩, ⟨bl_ HB.out⟩⟩
  ·
   rw [if_neg c3] at H
   have ⟨c3b0, c3b1⟩ := nqb_ c3; have c3b2 : ¬ (l0 = []) := fun h_ => c3 (by rw [h_]; rfl)
   (first | rw [c3b0] | (simp only [i64_w, i32_w]; rw [c3b0]) | skip); have H' := Aside0.mk H; clear H; go_wp2; go_meet
   case rel => exact ⟨_, (decide ((l0.length : Int) > 256)), eq_, H', ⟨by first | omega | exact Nat.le_refl _⟩, ⟨bl_ HB.out⟩⟩
 case rest =>
  clear HC2; (try clear c1); (try clear p2); (try clear c3); (try clear c3b0); (try clear c3b1); (try clear c3b2); obtain ⟨kq, x30_1, rfl, HA, HJ1, HB⟩ := hcut
  cases kq with
  | zero => exact absurd HA.out (by simp [shape_Check.j0])
  | succ kj1 =>
   have H := HA.out; clear HA; simp only [shape_Check.j0] at H
   by_cases c4 : x30_1 = true
   ·
    subst c4
    rw [if_pos rfl] at H; simp only [Option.some.injEq, Prod.mk.injEq] at H; obtain ⟨rfl, rfl⟩ := H; go_wp2; go_ret2
    exact ⟨rr_, bl_ HB.out⟩
   ·
    replace c4 := Bool.eq_false_iff.mpr c4
    subst c4; rw [if_neg (show ¬ (false = true) by decide)] at H; have H' := Aside0.mk H; clear H; go_wp2; go_loopg [4] kj1 (fun kq v4 w' => ∃ (x4_2 : Int), v4 = .int .i64 x4_2 ∧ Aside0 (shape_Check.l0 kq l0 x4_2 = some (r1, r2)) ∧ Aside0 (kq ≤ kj1) ∧ Aside0 (Below w.heap.size w w'))
    case atStart => exact ⟨(0), eq_, H', ⟨Nat.le_refl _⟩, ⟨bl_ HB.out⟩⟩
    case round =>
     clear H'; (try clear c1); (try clear p2); (try clear c3); (try clear c3b0); (try clear c3b1); (try clear c3b2); (try clear c4); obtain ⟨x4_2, rfl, HA, HK2, HB⟩ := hrel
     cases gk with
     | zero => exact absurd HA.out (by simp [shape_Check.l0])
     | succ k2 =>
      have H := HA.out; clear HA; simp only [shape_Check.l0] at H
      by_cases c5 : x4_2 < (l0.length : Int)
      ·
       rw [if_pos c5] at H
       have c5b0 := decide_eq_true c5; clear c5; replace H := bs_ H; obtain ⟨⟨t160, t161⟩, A6, H⟩ := H; (try dsimp only at H); have HC7 := Aside0.mk H; clear H; go_upto_region 6 with (first | ((with_reducible refine gate_callee (f := 26) rfl ?_); refine goesL_ (some 38) rfl rfl Try.func26 (by kernel_rfl) rfl #[.slice A0 l0.length c0, .int .i64 x4_2] rfl am_ ?_; (with_reducible refine (insn_Plain.calls k2 _ _ l0 x4_2 t160 t161 _ ?side1 ?side2 A6.out).mono ?_); (case side1 => exact cb_ (Kd.C_below HR0.out HB.out)); (case side2 => exact HC0.out); rintro e w8 ⟨rfl, hb⟩; refine ⟨_, rfl, ?_⟩; have n0_ := Aside0.mk (below_step (bl_ HB.out) hb); clear HB; have HB := n0_; clear n0_; (try clear hb); (try clear hb2); (try clear hk); (try clear hi)))
       (try simp only [Act.put, List.setIfInBounds_toArray, List.set_cons_zero, List.set_cons_succ]); go_cut [49] (fun v49 wc => ∃ (kq : Nat) (x49_6 : Bool), v49 = .bool x49_6 ∧ Aside0 (shape_Check.j2 kq l0 x4_2 t160 t161 x49_6 = some (r1, r2)) ∧ Aside0 (kq ≤ k2) ∧ Aside0 (Below w.heap.size w wc))
       case first =>
        have H := HC7.out; clear HC7
        by_cases c9 : t161 = 0
        ·
         rw [if_pos c9] at H
         have ⟨c9b0, c9b1⟩ := eqb_ c9; clear c9; (first | rw [c9b0] | (simp only [i64_w, i32_w]; rw [c9b0]) | skip)
         by_cases c10 : 0 ≤ x4_2
         ·
          rw [if_pos c10] at H
          have c10b0 := decide_eq_true c10; clear c10; replace H := bs_ H; obtain ⟨t163, A11, H⟩ := H; (try dsimp only at H); have H' := Aside0.mk H; clear H; have p162 : 0 ≤ (x4_2 : Int) := of_decide_eq_true as_; have q162 : x4_2 < (l0.length : Int) := of_decide_eq_true as_; obtain ⟨ad162, e162, hx162_0, hx162_1, hx162_2, hx162_3, hx162_4⟩ := at_T43 (Kd.C_below HR0.out HB.out) x4_2 p162 q162
          cases e162
          replace p162 := eq_true p162; replace q162 := eq_true q162; go_wp2_with (first | (go_at_call 27; (with_reducible refine (shape_field.calls k2 ((rd_T43 l0 x4_2).f0) ((rd_T43 l0 x4_2).f1) ((rd_T43 l0 x4_2).f2) ((rd_T43 l0 x4_2).f3) ((rd_T43 l0 x4_2).f4) t163 _ A11.out).mono ?_); rintro e w12 ⟨rfl, hb⟩; have n0_ := Aside0.mk (below_step (bl_ HB.out) hb); clear HB; have HB := n0_; clear n0_; (try clear hb); (try clear hb2); (try clear hk); (try clear hi)))
          go_meet
          case rel => exact ⟨_, (t163), eq_, H', ⟨by have := HJ1.out; have := HK2.out; first | omega | exact Nat.le_refl _⟩, ⟨bl_ HB.out⟩⟩
         ·
          rw [if_neg c10] at H
          exact absurd H (by simp)
        ·
         rw [if_neg c9] at H
         have ⟨c9b0, c9b1⟩ := nqb_ c9; (first | rw [c9b0] | (simp only [i64_w, i32_w]; rw [c9b0]) | skip); have H' := Aside0.mk H; clear H; go_wp2; go_meet
         case rel => exact ⟨_, (false), eq_, H', ⟨by have := HJ1.out; have := HK2.out; first | omega | exact Nat.le_refl _⟩, ⟨bl_ HB.out⟩⟩
       case rest =>
        clear HC7; (try clear c1); (try clear p1); (try clear q1); (try clear hx1); (try clear c2); (try clear p2); (try clear c3); (try clear c3b0); (try clear c3b1); (try clear c3b2); (try clear c4); (try clear c5); (try clear c5b0); (try clear c9); (try clear c9b0); (try clear c9b1); (try clear c10); (try clear c10b0); (try clear hx162_0); (try clear hx162_1); (try clear hx162_2); (try clear hx162_3); (try clear hx162_4); (try clear p162); (try clear q162); obtain ⟨kq, x49_6, rfl, HA, HJ6, HB⟩ := hcut
        cases kq with
        | zero => exact absurd HA.out (by simp [shape_Check.j2])
        | succ kj6 =>
         have H := HA.out; clear HA; simp only [shape_Check.j2] at H
         by_cases c13 : x49_6 = true
         ·
          subst c13
          rw [if_pos rfl] at H; simp only [Option.some.injEq, Prod.mk.injEq] at H; obtain ⟨rfl, rfl⟩ := H; go_wp2; go_ret2
          exact ⟨rr_, bl_ HB.out⟩
         ·
          replace c13 := Bool.eq_false_iff.mpr c13
          subst c13; rw [if_neg (show ¬ (false = true) by decide)] at H
          by_cases c14 : t161 = 0
          ·
           rw [if_pos c14] at H
           have ⟨c14b0, c14b1⟩ := eqb_ c14; clear c14; have H' := Aside0.mk H; clear H; go_wp2; go_roundg kj6
           case measure => have := HJ1.out; have := HK2.out; have := HJ6.out; omega
           case rel => exact ⟨(wrap64 (x4_2 + t160)), eq_, H', ⟨by have := HJ1.out; have := HK2.out; have := HJ6.out; omega⟩, ⟨bl_ HB.out⟩⟩
          ·
           rw [if_neg c14] at H
           have ⟨c14b0, c14b1⟩ := nqb_ c14; simp only [Option.some.injEq, Prod.mk.injEq] at H; obtain ⟨rfl, rfl⟩ := H; go_wp2; go_ret2
           exact ⟨rr_, bl_ HB.out⟩
      ·
       rw [if_neg c5] at H
       have c5b0 := decide_eq_false c5; clear c5; replace H := bs_ H; obtain ⟨t164, A15, H⟩ := H; (try dsimp only at H); replace H := bs_ H; obtain ⟨t167, A16, H⟩ := H; (try dsimp only at H); have H' := Aside0.mk H; clear H; go_wp2_with (first | ((with_reducible refine gate_callee (f := 22) rfl ?_); refine goesL_ (some 58) rfl rfl Try.func22 (by kernel_rfl) rfl #[.slice A0 l0.length c0] rfl am_ ?_; (with_reducible refine (shape_Starts.calls k2 _ _ l0 t164 _ ?side1 ?side2 A15.out).mono ?_); (case side1 => exact cb_ (Kd.C_below HR0.out HB.out)); (case side2 => exact HC0.out); rintro e w17 ⟨v165, rfl, ho0, hb⟩; refine ⟨_, rfl, ?_⟩; have n_ : _ ∧ _ := ⟨k_ (Kd.R_lower ho0 (below_size (bl_ HB.out))), k_ (below_step (bl_ HB.out) hb)⟩; clear HB; obtain ⟨HO166, HB⟩ := n_; (try clear hb); (try clear hb2); (try clear hk); (try clear hi); (try clear ho0)) | ((with_reducible refine gate_callee (f := 28) rfl ?_); refine goesL_ (some 60) rfl rfl Try.func28 (by kernel_rfl) rfl #[.slice A0 l0.length c0] rfl am_ ?_; (with_reducible refine (shape_Parts.calls k2 _ _ l0 t167 _ ?side1 ?side2 A16.out).mono ?_); (case side1 => exact cb_ (Kd.C_below HR0.out HB.out)); (case side2 => exact HC0.out); rintro e w18 ⟨v168, rfl, ho0, hb⟩; refine ⟨_, rfl, ?_⟩; have n_ : _ ∧ _ ∧ _ := ⟨k_ (Kd.R_below (mv_ HO166.out) hb), k_ (Kd.R_lower ho0 (below_size (bl_ HB.out))), k_ (below_step (bl_ HB.out) hb)⟩; clear HO166 HB; obtain ⟨HO166, HO169, HB⟩ := n_; (try clear hb); (try clear hb2); (try clear hk); (try clear hi); (try clear ho0); obtain ⟨Ao19, co19, eo19⟩ := Kd.R_slice HO166.out; subst eo19; obtain ⟨AoP, coP, eoP⟩ := Kd.R_slice HO169.out; subst eoP))
       have n9_ := Aside0.mk (Go.Proofs.YtmijlibnembkaaaX.box_new (T := 52) HO169.out (below_size HB.out)); clear HO169; go_loopg [63] k2 (fun kq v63 w' => ∃ (x63_3 : Int), v63 = .int .i64 x63_3 ∧ Aside0 (shape_Check.l1 kq l0 t164 t167 t164 (t164.length : Int) x63_3 = some (r1, r2)) ∧ Aside0 (kq ≤ k2) ∧ Aside0 (Kd.R Kd.bool 4 w' w.heap.size (fun _ => True) (.slice Ao19 t164.length co19) t164) ∧ Aside0 (Kd.R (Kd.slice 3 (Kd.int .i64)) 52 w' w.heap.size (fun _ => True) (.slice (some ⟨w18.heap.size, 0, none⟩) 1 1) [t167]) ∧ Aside0 (Kd.R Kd.bool 4 w' w.heap.size (fun _ => True) (.slice Ao19 t164.length co19) t164) ∧ Aside0 (Below w.heap.size w w'))
       case atStart => exact ⟨(0), eq_, H', ⟨Nat.le_refl _⟩, ⟨mv_ HO166.out⟩, ⟨n9_.out⟩, ⟨mv_ HO166.out⟩, ⟨bl_ HB.out⟩⟩
       case round =>
        clear H'; (try clear c1); (try clear p1); (try clear q1); (try clear hx1); (try clear c2); (try clear p2); (try clear c3); (try clear c3b0); (try clear c3b1); (try clear c3b2); (try clear c4); (try clear c5); (try clear c5b0); (try clear p6); (try clear c9); (try clear c9b0); (try clear c9b1); (try clear c10); (try clear c10b0); (try clear c13); (try clear c14); (try clear c14b0); (try clear c14b1); (try clear c15); (try clear p16); (try clear q16); (try clear hx16); (try clear hx162_0); (try clear hx162_1); (try clear hx162_2); (try clear hx162_3); (try clear hx162_4); (try clear p162); (try clear q162); obtain ⟨x63_3, rfl, HA, HK3, HO_7, HO_8, HO_61, HB⟩ := hrel
        cases gk with
        | zero => exact absurd HA.out (by simp [shape_Check.l1])
        | succ k3 =>
         have H := HA.out; clear HA; simp only [shape_Check.l1] at H
         by_cases c20 : x63_3 < (t164.length : Int)
         ·
          rw [if_pos c20] at H
          have c20b0 := decide_eq_true c20; clear c20
          by_cases c21 : 0 ≤ x63_3
          ·
           rw [if_pos c21] at H
           have c21b0 := decide_eq_true c21; clear c21
           by_cases c22 : x63_3 < (t164.length : Int)
           ·
            rw [if_pos c22] at H
            have c22b0 := decide_eq_true c22; clear c22
            by_cases c23 : x63_3 < (l0.length : Int)
            ·
             rw [if_pos c23] at H
             have c23b0 := decide_eq_true c23; clear c23; replace H := bs_ H; obtain ⟨⟨t172, t173⟩, A24, H⟩ := H; (try dsimp only at H); have HC25 := Aside0.mk H; clear H; have p170 : 0 ≤ (x63_3 : Int) := of_decide_eq_true as_; have q170 : x63_3 < (t164.length : Int) := of_decide_eq_true as_; obtain ⟨bz, hbz⟩ : ∃ b_ : Bool, b_ = (rdOf false t164 x63_3) := ⟨_, rfl⟩; have Nbz := Aside0.mk hbz; clear hbz; obtain ⟨ad170, e170, hx170_0⟩ := Kd.at_bool (Kd.R_reads' HO_61.out).2.2 x63_3 p170 q170; rw [← Nbz.out] at hx170_0
             cases e170
             replace p170 := eq_true p170; replace q170 := eq_true q170; have p171 : 0 ≤ (x63_3 : Int) := of_decide_eq_true as_; have q171 : x63_3 < (l0.length : Int) := of_decide_eq_true as_; obtain ⟨ad171, e171, hx171_0, hx171_1, hx171_2, hx171_3, hx171_4⟩ := at_T43 (Kd.C_below HR0.out HB.out) x63_3 p171 q171
             cases e171
             replace p171 := eq_true p171; replace q171 := eq_true q171; go_upto_region 16 with (first | ((with_reducible refine gate_callee (f := 29) rfl ?_); refine goesL_ (some 73) rfl rfl Try.func29 (by kernel_rfl) rfl #[.agg #[.int .u8 ((rd_T43 l0 x63_3).f0), .int .u8 ((rd_T43 l0 x63_3).f1), .int .u8 ((rd_T43 l0 x63_3).f2), .int .i16 ((rd_T43 l0 x63_3).f3), .int .i32 ((rd_T43 l0 x63_3).f4)]] rfl am_ ?_; (with_reducible refine (shape_jumps.calls k3 ((rd_T43 l0 x63_3).f0) ((rd_T43 l0 x63_3).f1) ((rd_T43 l0 x63_3).f2) ((rd_T43 l0 x63_3).f3) ((rd_T43 l0 x63_3).f4) t172 t173 _ A24.out).mono ?_); rintro e w26 ⟨rfl, hb⟩; refine ⟨_, rfl, ?_⟩; have n_ : _ ∧ _ ∧ _ ∧ _ := ⟨k_ (Kd.R_below (mv_ HO_7.out) hb), k_ (Kd.R_below (mv_ HO_8.out) hb), k_ (Kd.R_below (mv_ HO_61.out) hb), k_ (below_step (bl_ HB.out) hb)⟩; clear HO_7 HO_8 HO_61 HB; obtain ⟨HO_7, HO_8, HO_61, HB⟩ := n_; (try clear hb); (try clear hb2); (try clear hk); (try clear hi)))
             (try simp only [Act.put, List.setIfInBounds_toArray, List.set_cons_zero, List.set_cons_succ]); go_cut [79] (fun v79 wc => ∃ (kq : Nat) (x79_24 : Bool), v79 = .bool x79_24 ∧ Aside0 (shape_Check.j4 kq l0 t164 t167 x63_3 t164 (t164.length : Int) x63_3 x79_24 = some (r1, r2)) ∧ Aside0 (kq ≤ k3) ∧ Aside0 (Kd.R Kd.bool 4 wc w.heap.size (fun _ => True) (.slice (some ad170) t164.length co19) t164) ∧ Aside0 (Kd.R (Kd.slice 3 (Kd.int .i64)) 52 wc w.heap.size (fun _ => True) (.slice (some ⟨w18.heap.size, 0, none⟩) 1 1) [t167]) ∧ Aside0 (Kd.R Kd.bool 4 wc w.heap.size (fun _ => True) (.slice (some ad170) t164.length co19) t164) ∧ Aside0 (Below w.heap.size w wc))
             case first =>
              have H := HC25.out; clear HC25; obtain ⟨bq27, hbq27, ebz⟩ : ∃ b_ : Bool, b_ = (rdOf false t164 x63_3) ∧ b_ = bz := ⟨_, rfl, Nbz.out.symm⟩; subst ebz; rw [← hbq27] at H; have Nbq27 := Aside0.mk hbq27; clear hbq27; (try rw [← Nbq27.out])
              by_cases c28 : bq27 = true
              ·
               subst c28
               rw [if_pos rfl] at H; have H' := Aside0.mk H; clear H; go_wp2; go_meet
               case rel => exact ⟨_, (t173), eq_, H', ⟨by have := HJ1.out; have := HK2.out; have := HK3.out; first | omega | exact Nat.le_refl _⟩, ⟨mv_ HO_7.out⟩, ⟨mv_ HO_8.out⟩, ⟨mv_ HO_61.out⟩, ⟨bl_ HB.out⟩⟩
              ·
               replace c28 := Bool.eq_false_iff.mpr c28
               subst c28; rw [if_neg (show ¬ (false = true) by decide)] at H; have H' := Aside0.mk H; clear H; go_wp2; go_meet
               case rel => exact ⟨_, (false), eq_, H', ⟨by have := HJ1.out; have := HK2.out; have := HK3.out; first | omega | exact Nat.le_refl _⟩, ⟨mv_ HO_7.out⟩, ⟨mv_ HO_8.out⟩, ⟨mv_ HO_61.out⟩, ⟨bl_ HB.out⟩⟩
             case rest =>
              clear HC25; (try clear c1); (try clear p1); (try clear q1); (try clear hx1); (try clear c2); (try clear p2); (try clear q2); (try clear c3); (try clear c3b0); (try clear c3b1); (try clear c3b2); (try clear c4); (try clear c5); (try clear c5b0); (try clear p6); (try clear c9); (try clear c9b0); (try clear c9b1); (try clear c10); (try clear c10b0); (try clear c13); (try clear c14); (try clear c14b0); (try clear c14b1); (try clear c15); (try clear p16); (try clear q16); (try clear hx16); (try clear p17); (try clear q17); (try clear hx17); (try clear c20); (try clear c20b0); (try clear c21); (try clear c21b0); (try clear c22); (try clear c22b0); (try clear c23); (try clear c23b0); (try clear c26); (try clear q27); (try clear c28); (try clear hx162_0); (try clear hx162_1); (try clear hx162_2); (try clear hx162_3); (try clear hx162_4); (try clear hx170_0); (try clear hx171_0); (try clear hx171_1); (try clear hx171_2); (try clear hx171_3); (try clear hx171_4); (try clear p162); (try clear p170); (try clear p171); (try clear q162); (try clear q170); (try clear q171); obtain ⟨kq, x79_24, rfl, HA, HJ24, HO_7, HO_8, HO_61, HB⟩ := hcut
              cases kq with
              | zero => exact absurd HA.out (by simp [shape_Check.j4])
              | succ kj24 =>
               have H := HA.out; clear HA; simp only [shape_Check.j4] at H
               by_cases c29 : x79_24 = true
               ·
                subst c29
                rw [if_pos rfl] at H; replace H := bs_ H; obtain ⟨⟨t174, t175⟩, A30, H⟩ := H; (try dsimp only at H)
                by_cases c31 : t175 = true
                ·
                 subst c31
                 rw [if_pos rfl] at H
                 by_cases c32 : 0 ≤ t174
                 ·
                  rw [if_pos c32] at H
                  have c32b0 := decide_eq_true c32; clear c32
                  by_cases c33 : t174 < (t164.length : Int)
                  ·
                   rw [if_pos c33] at H
                   have c33b0 := decide_eq_true c33; clear c33; obtain ⟨bq34, hbq34⟩ : ∃ b_ : Bool, b_ = (rdOf false t164 t174) := ⟨_, rfl⟩; rw [← hbq34] at H; have Nbq34 := Aside0.mk hbq34; clear hbq34
                   by_cases c35 : bq34 = true
                   ·
                    subst c35
                    rw [if_pos rfl] at H; have H' := Aside0.mk H; clear H; go_wp2_with (first | ((with_reducible refine gate_callee (f := 30) rfl ?_); refine goesL_ (some 83) rfl rfl Try.func30 (by kernel_rfl) rfl #[.slice (some ad171) l0.length c0, .int .i64 x63_3] rfl am_ ?_; (with_reducible refine (shape_target.calls kj24 _ _ l0 x63_3 t174 true _ ?side1 ?side2 A30.out).mono ?_); (case side1 => exact cb_ (Kd.C_below HR0.out HB.out)); (case side2 => exact HC0.out); rintro e w36 ⟨rfl, hb⟩; refine ⟨_, rfl, ?_⟩; have n_ : _ ∧ _ ∧ _ ∧ _ := ⟨k_ (Kd.R_below (mv_ HO_7.out) hb), k_ (Kd.R_below (mv_ HO_8.out) hb), k_ (Kd.R_below (mv_ HO_61.out) hb), k_ (below_step (bl_ HB.out) hb)⟩; clear HO_7 HO_8 HO_61 HB; obtain ⟨HO_7, HO_8, HO_61, HB⟩ := n_; (try clear hb); (try clear hb2); (try clear hk); (try clear hi); have p176 : 0 ≤ (t174 : Int) := of_decide_eq_true as_; have q176 : t174 < (t164.length : Int) := of_decide_eq_true as_; obtain ⟨ad176, e176, hx176_0⟩ := Kd.at_bool (Kd.R_reads' HO_7.out).2.2 t174 p176 q176; (try rw [← Nbq34.out] at hx176_0); obtain rfl : ad170 = ad176 := (by injection e176); replace p176 := eq_true p176; replace q176 := eq_true q176))
                    go_roundg kj24
                    case measure => have := HJ1.out; have := HK2.out; have := HK3.out; have := HJ24.out; omega
                    case rel => exact ⟨(wrap64 (x63_3 + 1)), eq_, H', ⟨by have := HJ1.out; have := HK2.out; have := HK3.out; have := HJ24.out; omega⟩, ⟨mv_ HO_7.out⟩, ⟨mv_ HO_8.out⟩, ⟨mv_ HO_61.out⟩, ⟨bl_ HB.out⟩⟩
                   ·
                    replace c35 := Bool.eq_false_iff.mpr c35
                    subst c35; rw [if_neg (show ¬ (false = true) by decide)] at H; simp only [Option.some.injEq, Prod.mk.injEq] at H; obtain ⟨rfl, rfl⟩ := H; go_wp2_with (first | ((with_reducible refine gate_callee (f := 30) rfl ?_); refine goesL_ (some 83) rfl rfl Try.func30 (by kernel_rfl) rfl #[.slice (some ad171) l0.length c0, .int .i64 x63_3] rfl am_ ?_; (with_reducible refine (shape_target.calls kj24 _ _ l0 x63_3 t174 true _ ?side1 ?side2 A30.out).mono ?_); (case side1 => exact cb_ (Kd.C_below HR0.out HB.out)); (case side2 => exact HC0.out); rintro e w37 ⟨rfl, hb⟩; refine ⟨_, rfl, ?_⟩; have n_ : _ ∧ _ ∧ _ ∧ _ := ⟨k_ (Kd.R_below (mv_ HO_7.out) hb), k_ (Kd.R_below (mv_ HO_8.out) hb), k_ (Kd.R_below (mv_ HO_61.out) hb), k_ (below_step (bl_ HB.out) hb)⟩; clear HO_7 HO_8 HO_61 HB; obtain ⟨HO_7, HO_8, HO_61, HB⟩ := n_; (try clear hb); (try clear hb2); (try clear hk); (try clear hi); have p176 : 0 ≤ (t174 : Int) := of_decide_eq_true as_; have q176 : t174 < (t164.length : Int) := of_decide_eq_true as_; obtain ⟨ad176, e176, hx176_0⟩ := Kd.at_bool (Kd.R_reads' HO_7.out).2.2 t174 p176 q176; (try rw [← Nbq34.out] at hx176_0); obtain rfl : ad170 = ad176 := (by injection e176); replace p176 := eq_true p176; replace q176 := eq_true q176))
                    go_ret2
                    exact ⟨rr_, bl_ HB.out⟩
                  ·
                   rw [if_neg c33] at H
                   exact absurd H (by simp)
                 ·
                  rw [if_neg c32] at H
                  exact absurd H (by simp)
                ·
                 replace c31 := Bool.eq_false_iff.mpr c31
                 subst c31; rw [if_neg (show ¬ (false = true) by decide)] at H; simp only [Option.some.injEq, Prod.mk.injEq] at H; obtain ⟨rfl, rfl⟩ := H; go_wp2_with (first | ((with_reducible refine gate_callee (f := 30) rfl ?_); refine goesL_ (some 83) rfl rfl Try.func30 (by kernel_rfl) rfl #[.slice (some ad171) l0.length c0, .int .i64 x63_3] rfl am_ ?_; (with_reducible refine (shape_target.calls kj24 _ _ l0 x63_3 t174 false _ ?side1 ?side2 A30.out).mono ?_); (case side1 => exact cb_ (Kd.C_below HR0.out HB.out)); (case side2 => exact HC0.out); rintro e w38 ⟨rfl, hb⟩; refine ⟨_, rfl, ?_⟩; have n_ : _ ∧ _ ∧ _ ∧ _ := ⟨k_ (Kd.R_below (mv_ HO_7.out) hb), k_ (Kd.R_below (mv_ HO_8.out) hb), k_ (Kd.R_below (mv_ HO_61.out) hb), k_ (below_step (bl_ HB.out) hb)⟩; clear HO_7 HO_8 HO_61 HB; obtain ⟨HO_7, HO_8, HO_61, HB⟩ := n_; (try clear hb); (try clear hb2); (try clear hk); (try clear hi)))
                 go_ret2
                 exact ⟨rr_, bl_ HB.out⟩
               ·
                replace c29 := Bool.eq_false_iff.mpr c29
                subst c29; rw [if_neg (show ¬ (false = true) by decide)] at H; have H' := Aside0.mk H; clear H; go_wp2; go_roundg kj24
                case measure => have := HJ1.out; have := HK2.out; have := HK3.out; have := HJ24.out; omega
                case rel => exact ⟨(wrap64 (x63_3 + 1)), eq_, H', ⟨by have := HJ1.out; have := HK2.out; have := HK3.out; have := HJ24.out; omega⟩, ⟨mv_ HO_7.out⟩, ⟨mv_ HO_8.out⟩, ⟨mv_ HO_61.out⟩, ⟨bl_ HB.out⟩⟩
            ·
             rw [if_neg c23] at H
             exact absurd H (by simp)
           ·
            rw [if_neg c22] at H
            exact absurd H (by simp)
          ·
           rw [if_neg c21] at H
           exact absurd H (by simp)
         ·
          rw [if_neg c20] at H
          have c20b0 := decide_eq_false c20; clear c20; have H' := Aside0.mk H; clear H; go_wp2; go_loopg [100] k3 (fun kq v100 w' => ∃ (x100_4 : Int), v100 = .int .i64 x100_4 ∧ Aside0 (shape_Check.l2 kq l0 t164 t167 t164 (t164.length : Int) x100_4 = some (r1, r2)) ∧ Aside0 (kq ≤ k3) ∧ Aside0 (Kd.R Kd.bool 4 w' w.heap.size (fun _ => True) (.slice Ao19 t164.length co19) t164) ∧ Aside0 (Kd.R (Kd.slice 3 (Kd.int .i64)) 52 w' w.heap.size (fun _ => True) (.slice (some ⟨w18.heap.size, 0, none⟩) 1 1) [t167]) ∧ Aside0 (Kd.R Kd.bool 4 w' w.heap.size (fun _ => True) (.slice Ao19 t164.length co19) t164) ∧ Aside0 (Below w.heap.size w w'))
          case atStart => exact ⟨(0), eq_, H', ⟨Nat.le_refl _⟩, ⟨mv_ HO_7.out⟩, ⟨mv_ HO_8.out⟩, ⟨mv_ HO_7.out⟩, ⟨bl_ HB.out⟩⟩
          case round =>
           clear H'; (try clear c1); (try clear p1); (try clear q1); (try clear hx1); (try clear c2); (try clear p2); (try clear q2); (try clear c3); (try clear c3b0); (try clear c3b1); (try clear c3b2); (try clear q3); (try clear c4); (try clear c5); (try clear c5b0); (try clear p6); (try clear c9); (try clear c9b0); (try clear c9b1); (try clear c10); (try clear c10b0); (try clear c13); (try clear c14); (try clear c14b0); (try clear c14b1); (try clear c15); (try clear p16); (try clear q16); (try clear hx16); (try clear p17); (try clear q17); (try clear hx17); (try clear c20); (try clear c20b0); (try clear c21); (try clear c21b0); (try clear c22); (try clear c22b0); (try clear c23); (try clear c23b0); (try clear c26); (try clear q27); (try clear c28); (try clear c29); (try clear c30); (try clear c31); (try clear c32); (try clear c32b0); (try clear c33); (try clear c33b0); (try clear q34); (try clear c35); (try clear hx162_0); (try clear hx162_1); (try clear hx162_2); (try clear hx162_3); (try clear hx162_4); (try clear hx170_0); (try clear hx171_0); (try clear hx171_1); (try clear hx171_2); (try clear hx171_3); (try clear hx171_4); (try clear hx176_0); (try clear p162); (try clear p170); (try clear p171); (try clear p176); (try clear q162); (try clear q170); (try clear q171); (try clear q176); obtain ⟨x100_4, rfl, HA, HK4, HO_7, HO_8, HO_98, HB⟩ := hrel
           cases gk with
           | zero => exact absurd HA.out (by simp [shape_Check.l2])
           | succ k4 =>
            have H := HA.out; clear HA; simp only [shape_Check.l2] at H
            by_cases c39 : x100_4 < (t164.length : Int)
            ·
             rw [if_pos c39] at H
             have c39b0 := decide_eq_true c39; clear c39
             by_cases c40 : 0 ≤ x100_4
             ·
              rw [if_pos c40] at H
              have c40b0 := decide_eq_true c40; clear c40
              by_cases c41 : x100_4 < (t164.length : Int)
              ·
               rw [if_pos c41] at H
               have c41b0 := decide_eq_true c41; clear c41; replace H := bs_ H; obtain ⟨⟨t178, t179⟩, A42, H⟩ := H; (try dsimp only at H); obtain ⟨bq43, hbq43⟩ : ∃ b_ : Bool, b_ = (rdOf false t164 x100_4) := ⟨_, rfl⟩; rw [← hbq43] at H; have Nbq43 := Aside0.mk hbq43; clear hbq43
               by_cases c44 : bq43 = true
               ·
                subst c44
                rw [if_pos rfl] at H
                by_cases c45 : t179 = true
                ·
                 subst c45
                 rw [if_pos rfl] at H
                 by_cases c46 : x100_4 < (l0.length : Int)
                 ·
                  rw [if_pos c46] at H
                  have c46b0 := decide_eq_true c46; clear c46
                  by_cases c47 : ((rd_T43 l0 x100_4).f0) = 133
                  ·
                   rw [if_pos c47] at H
                   have ⟨c47b0, c47b1⟩ := eqb_ c47; clear c47; have H' := Aside0.mk H; clear H; have p177 : 0 ≤ (x100_4 : Int) := of_decide_eq_true as_; have q177 : x100_4 < (t164.length : Int) := of_decide_eq_true as_; obtain ⟨ad177, e177, hx177_0⟩ := Kd.at_bool (Kd.R_reads' HO_98.out).2.2 x100_4 p177 q177; (try rw [← Nbq43.out] at hx177_0)
                   cases e177
                   replace p177 := eq_true p177; replace q177 := eq_true q177; go_wp2_with (first | ((with_reducible refine gate_callee (f := 30) rfl ?_); refine goesL_ (some 108) rfl rfl Try.func30 (by kernel_rfl) rfl #[.slice A0 l0.length c0, .int .i64 x100_4] rfl am_ ?_; (with_reducible refine (shape_target.calls k4 _ _ l0 x100_4 t178 true _ ?side1 ?side2 A42.out).mono ?_); (case side1 => exact cb_ (Kd.C_below HR0.out HB.out)); (case side2 => exact HC0.out); rintro e w48 ⟨rfl, hb⟩; refine ⟨_, rfl, ?_⟩; have n_ : _ ∧ _ ∧ _ ∧ _ := ⟨k_ (Kd.R_below (mv_ HO_7.out) hb), k_ (Kd.R_below (mv_ HO_8.out) hb), k_ (Kd.R_below (mv_ HO_98.out) hb), k_ (below_step (bl_ HB.out) hb)⟩; clear HO_7 HO_8 HO_98 HB; obtain ⟨HO_7, HO_8, HO_98, HB⟩ := n_; (try clear hb); (try clear hb2); (try clear hk); (try clear hi); have p180 : 0 ≤ (x100_4 : Int) := of_decide_eq_true as_; have q180 : x100_4 < (l0.length : Int) := of_decide_eq_true as_; obtain ⟨ad180, e180, hx180_0, hx180_1, hx180_2, hx180_3, hx180_4⟩ := at_T43 (Kd.C_below HR0.out HB.out) x100_4 p180 q180; cases e180; replace p180 := eq_true p180; replace q180 := eq_true q180))
                   go_roundg k4
                   case measure => have := HJ1.out; have := HK2.out; have := HK3.out; have := HK4.out; omega
                   case rel => exact ⟨(wrap64 (x100_4 + 1)), eq_, H', ⟨by have := HJ1.out; have := HK2.out; have := HK3.out; have := HK4.out; omega⟩, ⟨mv_ HO_7.out⟩, ⟨mv_ HO_8.out⟩, ⟨mv_ HO_98.out⟩, ⟨bl_ HB.out⟩⟩
                  ·
                   rw [if_neg c47] at H
                   have ⟨c47b0, c47b1⟩ := nqb_ c47; replace H := bs_ H; obtain ⟨t181, A49, H⟩ := H; (try dsimp only at H); replace H := bs_ H; obtain ⟨t182, A50, H⟩ := H; (try dsimp only at H)
                   by_cases c51 : t181 = t182
                   ·
                    rw [if_pos c51] at H
                    have ⟨c51b0, c51b1⟩ := eqb_ c51; clear c51; have H' := Aside0.mk H; clear H; have p177 : 0 ≤ (x100_4 : Int) := of_decide_eq_true as_; have q177 : x100_4 < (t164.length : Int) := of_decide_eq_true as_; obtain ⟨ad177, e177, hx177_0⟩ := Kd.at_bool (Kd.R_reads' HO_98.out).2.2 x100_4 p177 q177; (try rw [← Nbq43.out] at hx177_0)
                    cases e177
                    replace p177 := eq_true p177; replace q177 := eq_true q177; go_wp2_with (first | ((with_reducible refine gate_callee (f := 30) rfl ?_); refine goesL_ (some 108) rfl rfl Try.func30 (by kernel_rfl) rfl #[.slice A0 l0.length c0, .int .i64 x100_4] rfl am_ ?_; (with_reducible refine (shape_target.calls k4 _ _ l0 x100_4 t178 true _ ?side1 ?side2 A42.out).mono ?_); (case side1 => exact cb_ (Kd.C_below HR0.out HB.out)); (case side2 => exact HC0.out); rintro e w52 ⟨rfl, hb⟩; refine ⟨_, rfl, ?_⟩; have n_ : _ ∧ _ ∧ _ ∧ _ := ⟨k_ (Kd.R_below (mv_ HO_7.out) hb), k_ (Kd.R_below (mv_ HO_8.out) hb), k_ (Kd.R_below (mv_ HO_98.out) hb), k_ (below_step (bl_ HB.out) hb)⟩; clear HO_7 HO_8 HO_98 HB; obtain ⟨HO_7, HO_8, HO_98, HB⟩ := n_; (try clear hb); (try clear hb2); (try clear hk); (try clear hi); have p180 : 0 ≤ (x100_4 : Int) := of_decide_eq_true as_; have q180 : x100_4 < (l0.length : Int) := of_decide_eq_true as_; obtain ⟨ad180, e180, hx180_0, hx180_1, hx180_2, hx180_3, hx180_4⟩ := at_T43 (Kd.C_below HR0.out HB.out) x100_4 p180 q180; cases e180; replace p180 := eq_true p180; replace q180 := eq_true q180) | (go_at_call 31; (with_reducible refine (shape_part.calls _ t167 t178 t181 _ ?side1 A49.out).mono ?_); (case side1 => exact Go.Proofs.YtmijlibnembkaaaX.box_read (mv_ HO_8.out)); rintro e w' ⟨rfl, ⟨nd, rfl⟩⟩) | (go_at_call 31; (with_reducible refine (shape_part.calls _ t167 x100_4 t182 _ ?side1 A50.out).mono ?_); (case side1 => exact Go.Proofs.YtmijlibnembkaaaX.box_read (mv_ HO_8.out)); rintro e w' ⟨rfl, ⟨nd, rfl⟩⟩))
                    go_roundg k4
                    case measure => have := HJ1.out; have := HK2.out; have := HK3.out; have := HK4.out; omega
                    case rel => exact ⟨(wrap64 (x100_4 + 1)), eq_, H', ⟨by have := HJ1.out; have := HK2.out; have := HK3.out; have := HK4.out; omega⟩, ⟨mv_ HO_7.out⟩, ⟨mv_ HO_8.out⟩, ⟨mv_ HO_98.out⟩, ⟨bl_ HB.out⟩⟩
                   ·
                    rw [if_neg c51] at H
                    have ⟨c51b0, c51b1⟩ := nqb_ c51; simp only [Option.some.injEq, Prod.mk.injEq] at H; obtain ⟨rfl, rfl⟩ := H; have p177 : 0 ≤ (x100_4 : Int) := of_decide_eq_true as_; have q177 : x100_4 < (t164.length : Int) := of_decide_eq_true as_; obtain ⟨ad177, e177, hx177_0⟩ := Kd.at_bool (Kd.R_reads' HO_98.out).2.2 x100_4 p177 q177; (try rw [← Nbq43.out] at hx177_0)
                    cases e177
                    replace p177 := eq_true p177; replace q177 := eq_true q177; go_wp2_with (first | ((with_reducible refine gate_callee (f := 30) rfl ?_); refine goesL_ (some 108) rfl rfl Try.func30 (by kernel_rfl) rfl #[.slice A0 l0.length c0, .int .i64 x100_4] rfl am_ ?_; (with_reducible refine (shape_target.calls k4 _ _ l0 x100_4 t178 true _ ?side1 ?side2 A42.out).mono ?_); (case side1 => exact cb_ (Kd.C_below HR0.out HB.out)); (case side2 => exact HC0.out); rintro e w54 ⟨rfl, hb⟩; refine ⟨_, rfl, ?_⟩; have n_ : _ ∧ _ ∧ _ ∧ _ := ⟨k_ (Kd.R_below (mv_ HO_7.out) hb), k_ (Kd.R_below (mv_ HO_8.out) hb), k_ (Kd.R_below (mv_ HO_98.out) hb), k_ (below_step (bl_ HB.out) hb)⟩; clear HO_7 HO_8 HO_98 HB; obtain ⟨HO_7, HO_8, HO_98, HB⟩ := n_; (try clear hb); (try clear hb2); (try clear hk); (try clear hi); have p180 : 0 ≤ (x100_4 : Int) := of_decide_eq_true as_; have q180 : x100_4 < (l0.length : Int) := of_decide_eq_true as_; obtain ⟨ad180, e180, hx180_0, hx180_1, hx180_2, hx180_3, hx180_4⟩ := at_T43 (Kd.C_below HR0.out HB.out) x100_4 p180 q180; cases e180; replace p180 := eq_true p180; replace q180 := eq_true q180) | (go_at_call 31; (with_reducible refine (shape_part.calls _ t167 t178 t181 _ ?side1 A49.out).mono ?_); (case side1 => exact Go.Proofs.YtmijlibnembkaaaX.box_read (mv_ HO_8.out)); rintro e w' ⟨rfl, ⟨nd, rfl⟩⟩) | (go_at_call 31; (with_reducible refine (shape_part.calls _ t167 x100_4 t182 _ ?side1 A50.out).mono ?_); (case side1 => exact Go.Proofs.YtmijlibnembkaaaX.box_read (mv_ HO_8.out)); rintro e w' ⟨rfl, ⟨nd, rfl⟩⟩))
                    go_ret2
                    exact ⟨rr_, bl_ HB.out⟩
                 ·
                  rw [if_neg c46] at H
                  exact absurd H (by simp)
                ·
                 replace c45 := Bool.eq_false_iff.mpr c45
                 subst c45; rw [if_neg (show ¬ (false = true) by decide)] at H; have H' := Aside0.mk H; clear H; have p177 : 0 ≤ (x100_4 : Int) := of_decide_eq_true as_; have q177 : x100_4 < (t164.length : Int) := of_decide_eq_true as_; obtain ⟨ad177, e177, hx177_0⟩ := Kd.at_bool (Kd.R_reads' HO_98.out).2.2 x100_4 p177 q177; (try rw [← Nbq43.out] at hx177_0)
                 cases e177
                 replace p177 := eq_true p177; replace q177 := eq_true q177; go_wp2_with (first | ((with_reducible refine gate_callee (f := 30) rfl ?_); refine goesL_ (some 108) rfl rfl Try.func30 (by kernel_rfl) rfl #[.slice A0 l0.length c0, .int .i64 x100_4] rfl am_ ?_; (with_reducible refine (shape_target.calls k4 _ _ l0 x100_4 t178 false _ ?side1 ?side2 A42.out).mono ?_); (case side1 => exact cb_ (Kd.C_below HR0.out HB.out)); (case side2 => exact HC0.out); rintro e w56 ⟨rfl, hb⟩; refine ⟨_, rfl, ?_⟩; have n_ : _ ∧ _ ∧ _ ∧ _ := ⟨k_ (Kd.R_below (mv_ HO_7.out) hb), k_ (Kd.R_below (mv_ HO_8.out) hb), k_ (Kd.R_below (mv_ HO_98.out) hb), k_ (below_step (bl_ HB.out) hb)⟩; clear HO_7 HO_8 HO_98 HB; obtain ⟨HO_7, HO_8, HO_98, HB⟩ := n_; (try clear hb); (try clear hb2); (try clear hk); (try clear hi)))
                 go_roundg k4
                 case measure => have := HJ1.out; have := HK2.out; have := HK3.out; have := HK4.out; omega
                 case rel => exact ⟨(wrap64 (x100_4 + 1)), eq_, H', ⟨by have := HJ1.out; have := HK2.out; have := HK3.out; have := HK4.out; omega⟩, ⟨mv_ HO_7.out⟩, ⟨mv_ HO_8.out⟩, ⟨mv_ HO_98.out⟩, ⟨bl_ HB.out⟩⟩
               ·
                replace c44 := Bool.eq_false_iff.mpr c44
                subst c44; rw [if_neg (show ¬ (false = true) by decide)] at H; have H' := Aside0.mk H; clear H; have p177 : 0 ≤ (x100_4 : Int) := of_decide_eq_true as_; have q177 : x100_4 < (t164.length : Int) := of_decide_eq_true as_; obtain ⟨ad177, e177, hx177_0⟩ := Kd.at_bool (Kd.R_reads' HO_98.out).2.2 x100_4 p177 q177; (try rw [← Nbq43.out] at hx177_0)
                cases e177
                replace p177 := eq_true p177; replace q177 := eq_true q177; go_wp2_with (first | ((with_reducible refine gate_callee (f := 30) rfl ?_); refine goesL_ (some 108) rfl rfl Try.func30 (by kernel_rfl) rfl #[.slice A0 l0.length c0, .int .i64 x100_4] rfl am_ ?_; (with_reducible refine (shape_target.calls k4 _ _ l0 x100_4 t178 t179 _ ?side1 ?side2 A42.out).mono ?_); (case side1 => exact cb_ (Kd.C_below HR0.out HB.out)); (case side2 => exact HC0.out); rintro e w57 ⟨rfl, hb⟩; refine ⟨_, rfl, ?_⟩; have n_ : _ ∧ _ ∧ _ ∧ _ := ⟨k_ (Kd.R_below (mv_ HO_7.out) hb), k_ (Kd.R_below (mv_ HO_8.out) hb), k_ (Kd.R_below (mv_ HO_98.out) hb), k_ (below_step (bl_ HB.out) hb)⟩; clear HO_7 HO_8 HO_98 HB; obtain ⟨HO_7, HO_8, HO_98, HB⟩ := n_; (try clear hb); (try clear hb2); (try clear hk); (try clear hi)))
                go_roundg k4
                case measure => have := HJ1.out; have := HK2.out; have := HK3.out; have := HK4.out; omega
                case rel => exact ⟨(wrap64 (x100_4 + 1)), eq_, H', ⟨by have := HJ1.out; have := HK2.out; have := HK3.out; have := HK4.out; omega⟩, ⟨mv_ HO_7.out⟩, ⟨mv_ HO_8.out⟩, ⟨mv_ HO_98.out⟩, ⟨bl_ HB.out⟩⟩
              ·
               rw [if_neg c41] at H
               exact absurd H (by simp)
             ·
              rw [if_neg c40] at H
              exact absurd H (by simp)
            ·
             rw [if_neg c39] at H
             have c39b0 := decide_eq_false c39; clear c39; have H' := Aside0.mk H; clear H; obtain ⟨Ao58, co58, hx58, _, _⟩ := Go.Proofs.YtmijlibnembkaaaX.box_read HO_8.out; go_wp2; go_loopg [136] k4 (fun kq v136 w' => ∃ (x136_5 : Int), v136 = .int .i64 x136_5 ∧ Aside0 (shape_Check.l3 kq l0 t164 t167 (t167.length : Int) x136_5 = some (r1, r2)) ∧ Aside0 (kq ≤ k4) ∧ Aside0 (Kd.R Kd.bool 4 w' w.heap.size (fun _ => True) (.slice Ao19 t164.length co19) t164) ∧ Aside0 (Kd.R (Kd.slice 3 (Kd.int .i64)) 52 w' w.heap.size (fun _ => True) (.slice (some ⟨w18.heap.size, 0, none⟩) 1 1) [t167]) ∧ Aside0 (Below w.heap.size w w'))
             case atStart => exact ⟨(0), eq_, H', ⟨Nat.le_refl _⟩, ⟨mv_ HO_7.out⟩, ⟨mv_ HO_8.out⟩, ⟨bl_ HB.out⟩⟩
             case round =>
              clear H'; (try clear c1); (try clear p1); (try clear q1); (try clear hx1); (try clear c2); (try clear p2); (try clear q2); (try clear c3); (try clear c3b0); (try clear c3b1); (try clear c3b2); (try clear q3); (try clear c4); (try clear q4); (try clear c5); (try clear c5b0); (try clear p6); (try clear c9); (try clear c9b0); (try clear c9b1); (try clear c10); (try clear c10b0); (try clear c13); (try clear c14); (try clear c14b0); (try clear c14b1); (try clear c15); (try clear p16); (try clear q16); (try clear hx16); (try clear p17); (try clear q17); (try clear hx17); (try clear p18); (try clear q18); (try clear hx18); (try clear c20); (try clear c20b0); (try clear c21); (try clear c21b0); (try clear c22); (try clear c22b0); (try clear c23); (try clear c23b0); (try clear c26); (try clear q27); (try clear c28); (try clear c29); (try clear c30); (try clear c31); (try clear c32); (try clear c32b0); (try clear c33); (try clear c33b0); (try clear q34); (try clear c35); (try clear c39); (try clear c39b0); (try clear c40); (try clear c40b0); (try clear c41); (try clear c41b0); (try clear q43); (try clear c44); (try clear c45); (try clear c46); (try clear c46b0); (try clear c47); (try clear c47b0); (try clear c47b1); (try clear c51); (try clear c51b0); (try clear c51b1); (try clear hx162_0); (try clear hx162_1); (try clear hx162_2); (try clear hx162_3); (try clear hx162_4); (try clear hx170_0); (try clear hx171_0); (try clear hx171_1); (try clear hx171_2); (try clear hx171_3); (try clear hx171_4); (try clear hx176_0); (try clear hx177_0); (try clear hx180_0); (try clear hx180_1); (try clear hx180_2); (try clear hx180_3); (try clear hx180_4); (try clear p162); (try clear p170); (try clear p171); (try clear p176); (try clear p177); (try clear p180); (try clear q162); (try clear q170); (try clear q171); (try clear q176); (try clear q177); (try clear q180); obtain ⟨x136_5, rfl, HA, HK5, HO_7, HO_8, HB⟩ := hrel
              cases gk with
              | zero => exact absurd HA.out (by simp [shape_Check.l3])
              | succ k5 =>
               have H := HA.out; clear HA; simp only [shape_Check.l3] at H
               by_cases c59 : x136_5 < (t167.length : Int)
               ·
                rw [if_pos c59] at H
                have c59b0 := decide_eq_true c59; clear c59; have HC60 := Aside0.mk H; clear H; obtain ⟨AoB, coB, hxB, _, hCB⟩ := Go.Proofs.YtmijlibnembkaaaX.box_read HO_8.out; have HCB := Aside0.mk hCB; clear hCB; go_upto_if 145 with (fail)
                go_cut [21] (fun v21 wc => ∃ (kq : Nat) (x21_59 : Int), v21 = .int .i64 x21_59 ∧ Aside0 (shape_Check.j7 kq l0 t164 t167 x21_59 (t167.length : Int) x136_5 = some (r1, r2)) ∧ Aside0 (kq ≤ k5) ∧ Aside0 (Kd.R Kd.bool 4 wc w.heap.size (fun _ => True) (.slice Ao19 t164.length co19) t164) ∧ Aside0 (Kd.R (Kd.slice 3 (Kd.int .i64)) 52 wc w.heap.size (fun _ => True) (.slice (some ⟨w18.heap.size, 0, none⟩) 1 1) [t167]) ∧ Aside0 (Below w.heap.size w wc))
                case first =>
                 have H := HC60.out; clear HC60
                 by_cases c61 : (wrap64 (x136_5 + 1)) < (t167.length : Int)
                 ·
                  rw [if_pos c61] at H
                  have c61b0 := decide_eq_true c61; clear c61; (first | rw [c61b0] | (simp only [i64_w, i32_w]; rw [c61b0]) | skip); obtain ⟨ji62, hji62⟩ : ∃ j_ : Int, (wrap64 (x136_5 + 1)) = j_ := ⟨_, rfl⟩; (first | rw [hji62] at H | simp only [hji62] at H); (try rw [hji62] at c61b0); have hji62w : (IntKind.i64.wrap (x136_5 + 1)) = ji62 := (i64_w _).trans hji62
                  by_cases c63 : 0 ≤ (ji62)
                  ·
                   rw [if_pos c63] at H
                   have c63b0 := decide_eq_true c63; clear c63; have H' := Aside0.mk H; clear H; have p183 : 0 ≤ ((ji62) : Int) := of_decide_eq_true as_; have q183 : (ji62) < (t167.length : Int) := of_decide_eq_true as_; obtain ⟨ad183, e183, hx183_0⟩ := Kd.at_int HCB.out (ji62) p183 q183
                   cases e183
                   replace p183 := eq_true p183; replace q183 := eq_true q183; go_wp2; go_meet
                   case rel => exact ⟨_, (rd t167 (ji62)), (by first | rfl | (simp; done) | (simp only [← hji62] <;> (first | rfl | simp)) | (simp [*]; done)), H', ⟨by have := HJ1.out; have := HK2.out; have := HK3.out; have := HK4.out; have := HK5.out; first | omega | exact Nat.le_refl _⟩, ⟨mv_ HO_7.out⟩, ⟨mv_ HO_8.out⟩, ⟨bl_ HB.out⟩⟩
                  ·
                   rw [if_neg c63] at H
                   exact absurd H (by simp)
                 ·
                  rw [if_neg c61] at H
                  have c61b0 := decide_eq_false c61; clear c61; (first | rw [c61b0] | (simp only [i64_w, i32_w]; rw [c61b0]) | skip); have H' := Aside0.mk H; clear H; go_wp2; go_meet
                  case rel => exact ⟨_, ((l0.length : Int)), eq_, H', ⟨by have := HJ1.out; have := HK2.out; have := HK3.out; have := HK4.out; have := HK5.out; first | omega | exact Nat.le_refl _⟩, ⟨mv_ HO_7.out⟩, ⟨mv_ HO_8.out⟩, ⟨bl_ HB.out⟩⟩
                case rest =>
                 clear HC60; (try clear c1); (try clear p1); (try clear q1); (try clear hx1); (try clear c2); (try clear p2); (try clear q2); (try clear c3); (try clear c3b0); (try clear c3b1); (try clear c3b2); (try clear q3); (try clear c4); (try clear q4); (try clear c5); (try clear c5b0); (try clear c6); (try clear p6); (try clear c9); (try clear c9b0); (try clear c9b1); (try clear c10); (try clear c10b0); (try clear c13); (try clear c14); (try clear c14b0); (try clear c14b1); (try clear c15); (try clear p16); (try clear q16); (try clear hx16); (try clear p17); (try clear q17); (try clear hx17); (try clear p18); (try clear q18); (try clear hx18); (try clear c20); (try clear c20b0); (try clear c21); (try clear c21b0); (try clear c22); (try clear c22b0); (try clear c23); (try clear c23b0); (try clear c26); (try clear q27); (try clear c28); (try clear c29); (try clear c30); (try clear c31); (try clear c32); (try clear c32b0); (try clear c33); (try clear c33b0); (try clear q34); (try clear c35); (try clear c39); (try clear c39b0); (try clear c40); (try clear c40b0); (try clear c41); (try clear c41b0); (try clear q43); (try clear c44); (try clear c45); (try clear c46); (try clear c46b0); (try clear c47); (try clear c47b0); (try clear c47b1); (try clear c51); (try clear c51b0); (try clear c51b1); (try clear c59); (try clear c59b0); (try clear c61); (try clear c61b0); (try clear c63); (try clear c63b0); (try clear hx162_0); (try clear hx162_1); (try clear hx162_2); (try clear hx162_3); (try clear hx162_4); (try clear hx170_0); (try clear hx171_0); (try clear hx171_1); (try clear hx171_2); (try clear hx171_3); (try clear hx171_4); (try clear hx176_0); (try clear hx177_0); (try clear hx180_0); (try clear hx180_1); (try clear hx180_2); (try clear hx180_3); (try clear hx180_4); (try clear hx183_0); (try clear p162); (try clear p170); (try clear p171); (try clear p176); (try clear p177); (try clear p180); (try clear p183); (try clear q162); (try clear q170); (try clear q171); (try clear q176); (try clear q177); (try clear q180); (try clear q183); obtain ⟨kq, x21_59, rfl, HA, HJ59, HO_7, HO_8, HB⟩ := hcut
                 cases kq with
                 | zero => exact absurd HA.out (by simp [shape_Check.j7])
                 | succ kj59 =>
                  have H := HA.out; clear HA; simp only [shape_Check.j7] at H; have H' := Aside0.mk H; clear H; go_wp2; go_loopg [21] kj59 (fun kq v21 w' => ∃ (x21_7 : Int), v21 = .int .i64 x21_7 ∧ Aside0 (shape_Check.l4 kq l0 t164 t167 x21_7 (t167.length : Int) x136_5 = some (r1, r2)) ∧ Aside0 (kq ≤ kj59) ∧ Aside0 (Kd.R Kd.bool 4 w' w.heap.size (fun _ => True) (.slice Ao19 t164.length co19) t164) ∧ Aside0 (Kd.R (Kd.slice 3 (Kd.int .i64)) 52 w' w.heap.size (fun _ => True) (.slice (some ⟨w18.heap.size, 0, none⟩) 1 1) [t167]) ∧ Aside0 (Below w.heap.size w w'))
                  case atStart => exact ⟨(wrap64 (x21_59 - 1)), eq_, H', ⟨Nat.le_refl _⟩, ⟨mv_ HO_7.out⟩, ⟨mv_ HO_8.out⟩, ⟨bl_ HB.out⟩⟩
                  case round =>
                   clear H'; (try clear c1); (try clear p1); (try clear q1); (try clear hx1); (try clear c2); (try clear p2); (try clear q2); (try clear c3); (try clear c3b0); (try clear c3b1); (try clear c3b2); (try clear q3); (try clear c4); (try clear q4); (try clear c5); (try clear c5b0); (try clear c6); (try clear p6); (try clear c9); (try clear c9b0); (try clear c9b1); (try clear c10); (try clear c10b0); (try clear c13); (try clear c14); (try clear c14b0); (try clear c14b1); (try clear c15); (try clear p16); (try clear q16); (try clear hx16); (try clear p17); (try clear q17); (try clear hx17); (try clear p18); (try clear q18); (try clear hx18); (try clear c20); (try clear c20b0); (try clear c21); (try clear c21b0); (try clear c22); (try clear c22b0); (try clear c23); (try clear c23b0); (try clear c26); (try clear q27); (try clear c28); (try clear c29); (try clear c30); (try clear c31); (try clear c32); (try clear c32b0); (try clear c33); (try clear c33b0); (try clear q34); (try clear c35); (try clear c39); (try clear c39b0); (try clear c40); (try clear c40b0); (try clear c41); (try clear c41b0); (try clear q43); (try clear c44); (try clear c45); (try clear c46); (try clear c46b0); (try clear c47); (try clear c47b0); (try clear c47b1); (try clear c51); (try clear c51b0); (try clear c51b1); (try clear c59); (try clear c59b0); (try clear c61); (try clear c61b0); (try clear c63); (try clear c63b0); (try clear hx162_0); (try clear hx162_1); (try clear hx162_2); (try clear hx162_3); (try clear hx162_4); (try clear hx170_0); (try clear hx171_0); (try clear hx171_1); (try clear hx171_2); (try clear hx171_3); (try clear hx171_4); (try clear hx176_0); (try clear hx177_0); (try clear hx180_0); (try clear hx180_1); (try clear hx180_2); (try clear hx180_3); (try clear hx180_4); (try clear hx183_0); (try clear p162); (try clear p170); (try clear p171); (try clear p176); (try clear p177); (try clear p180); (try clear p183); (try clear q162); (try clear q170); (try clear q171); (try clear q176); (try clear q177); (try clear q180); (try clear q183); obtain ⟨x21_7, rfl, HA, HK7, HO_7, HO_8, HB⟩ := hrel
                   cases gk with
                   | zero => exact absurd HA.out (by simp [shape_Check.l4])
                   | succ k7 =>
                    have H := HA.out; clear HA; simp only [shape_Check.l4] at H
                    by_cases c64 : 0 ≤ x21_7
                    ·
                     rw [if_pos c64] at H
                     have c64b0 := decide_eq_true c64; clear c64
                     by_cases c65 : x21_7 < (t164.length : Int)
                     ·
                      rw [if_pos c65] at H
                      have c65b0 := decide_eq_true c65; clear c65; obtain ⟨bq66, hbq66⟩ : ∃ b_ : Bool, b_ = (rdOf false t164 x21_7) := ⟨_, rfl⟩; rw [← hbq66] at H; have Nbq66 := Aside0.mk hbq66; clear hbq66
                      by_cases c67 : bq66 = true
                      ·
                       subst c67
                       rw [if_pos rfl] at H
                       by_cases c68 : x21_7 < (l0.length : Int)
                       ·
                        rw [if_pos c68] at H
                        have c68b0 := decide_eq_true c68; clear c68
                        by_cases c69 : ((rd_T43 l0 x21_7).f0) = 149
                        ·
                         rw [if_pos c69] at H
                         have ⟨c69b0, c69b1⟩ := eqb_ c69; clear c69; have H' := Aside0.mk H; clear H; have p184 : 0 ≤ (x21_7 : Int) := of_decide_eq_true as_; have q184 : x21_7 < (t164.length : Int) := of_decide_eq_true as_; obtain ⟨ad184, e184, hx184_0⟩ := Kd.at_bool (Kd.R_reads' HO_7.out).2.2 x21_7 p184 q184; (try rw [← Nbq66.out] at hx184_0)
                         cases e184
                         replace p184 := eq_true p184; replace q184 := eq_true q184; have p185 : 0 ≤ (x21_7 : Int) := of_decide_eq_true as_; have q185 : x21_7 < (l0.length : Int) := of_decide_eq_true as_; obtain ⟨ad185, e185, hx185_0, hx185_1, hx185_2, hx185_3, hx185_4⟩ := at_T43 (Kd.C_below HR0.out HB.out) x21_7 p185 q185
                         cases e185
                         replace p185 := eq_true p185; replace q185 := eq_true q185; go_wp2; go_roundg k7
                         case measure => have := HJ1.out; have := HK2.out; have := HK3.out; have := HK4.out; have := HK5.out; have := HJ59.out; have := HK7.out; omega
                         case rel => exact ⟨(wrap64 (x136_5 + 1)), eq_, H', ⟨by have := HJ1.out; have := HK2.out; have := HK3.out; have := HK4.out; have := HK5.out; have := HJ59.out; have := HK7.out; omega⟩, ⟨mv_ HO_7.out⟩, ⟨mv_ HO_8.out⟩, ⟨bl_ HB.out⟩⟩
                        ·
                         rw [if_neg c69] at H
                         have ⟨c69b0, c69b1⟩ := nqb_ c69
                         by_cases c70 : ((rd_T43 l0 x21_7).f0) = 5
                         ·
                          rw [if_pos c70] at H
                          have ⟨c70b0, c70b1⟩ := eqb_ c70; clear c70; have H' := Aside0.mk H; clear H; have p184 : 0 ≤ (x21_7 : Int) := of_decide_eq_true as_; have q184 : x21_7 < (t164.length : Int) := of_decide_eq_true as_; obtain ⟨ad184, e184, hx184_0⟩ := Kd.at_bool (Kd.R_reads' HO_7.out).2.2 x21_7 p184 q184; (try rw [← Nbq66.out] at hx184_0)
                          cases e184
                          replace p184 := eq_true p184; replace q184 := eq_true q184; have p185 : 0 ≤ (x21_7 : Int) := of_decide_eq_true as_; have q185 : x21_7 < (l0.length : Int) := of_decide_eq_true as_; obtain ⟨ad185, e185, hx185_0, hx185_1, hx185_2, hx185_3, hx185_4⟩ := at_T43 (Kd.C_below HR0.out HB.out) x21_7 p185 q185
                          cases e185
                          replace p185 := eq_true p185; replace q185 := eq_true q185; go_wp2; go_roundg k7
                          case measure => have := HJ1.out; have := HK2.out; have := HK3.out; have := HK4.out; have := HK5.out; have := HJ59.out; have := HK7.out; omega
                          case rel => exact ⟨(wrap64 (x136_5 + 1)), eq_, H', ⟨by have := HJ1.out; have := HK2.out; have := HK3.out; have := HK4.out; have := HK5.out; have := HJ59.out; have := HK7.out; omega⟩, ⟨mv_ HO_7.out⟩, ⟨mv_ HO_8.out⟩, ⟨bl_ HB.out⟩⟩
                         ·
                          rw [if_neg c70] at H
                          have ⟨c70b0, c70b1⟩ := nqb_ c70; simp only [Option.some.injEq, Prod.mk.injEq] at H; obtain ⟨rfl, rfl⟩ := H; have p184 : 0 ≤ (x21_7 : Int) := of_decide_eq_true as_; have q184 : x21_7 < (t164.length : Int) := of_decide_eq_true as_; obtain ⟨ad184, e184, hx184_0⟩ := Kd.at_bool (Kd.R_reads' HO_7.out).2.2 x21_7 p184 q184; (try rw [← Nbq66.out] at hx184_0)
                          cases e184
                          replace p184 := eq_true p184; replace q184 := eq_true q184; have p185 : 0 ≤ (x21_7 : Int) := of_decide_eq_true as_; have q185 : x21_7 < (l0.length : Int) := of_decide_eq_true as_; obtain ⟨ad185, e185, hx185_0, hx185_1, hx185_2, hx185_3, hx185_4⟩ := at_T43 (Kd.C_below HR0.out HB.out) x21_7 p185 q185
                          cases e185
                          replace p185 := eq_true p185; replace q185 := eq_true q185; go_wp2; go_ret2
                          exact ⟨rr_, bl_ HB.out⟩
                       ·
                        rw [if_neg c68] at H
                        exact absurd H (by simp)
                      ·
                       replace c67 := Bool.eq_false_iff.mpr c67
                       subst c67; rw [if_neg (show ¬ (false = true) by decide)] at H; have H' := Aside0.mk H; clear H; have p184 : 0 ≤ (x21_7 : Int) := of_decide_eq_true as_; have q184 : x21_7 < (t164.length : Int) := of_decide_eq_true as_; obtain ⟨ad184, e184, hx184_0⟩ := Kd.at_bool (Kd.R_reads' HO_7.out).2.2 x21_7 p184 q184; (try rw [← Nbq66.out] at hx184_0)
                       cases e184
                       replace p184 := eq_true p184; replace q184 := eq_true q184; go_wp2; go_roundg k7
                       case measure => have := HJ1.out; have := HK2.out; have := HK3.out; have := HK4.out; have := HK5.out; have := HJ59.out; have := HK7.out; omega
                       case rel => exact ⟨(wrap64 (x21_7 - 1)), eq_, H', ⟨by have := HJ1.out; have := HK2.out; have := HK3.out; have := HK4.out; have := HK5.out; have := HJ59.out; have := HK7.out; omega⟩, ⟨mv_ HO_7.out⟩, ⟨mv_ HO_8.out⟩, ⟨bl_ HB.out⟩⟩
                     ·
                      rw [if_neg c65] at H
                      exact absurd H (by simp)
                    ·
                     rw [if_neg c64] at H
                     exact absurd H (by simp)
               ·
                rw [if_neg c59] at H
                have c59b0 := decide_eq_false c59; clear c59; simp only [Option.some.injEq, Prod.mk.injEq] at H; obtain ⟨rfl, rfl⟩ := H; go_wp2; go_ret2
                exact ⟨rr_, bl_ HB.out⟩

end Go.Proofs.Ytmijlibnembkaaa.PA
