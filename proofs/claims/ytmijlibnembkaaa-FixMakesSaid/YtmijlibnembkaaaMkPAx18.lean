-- Printed by wip/tools/extprint.py over the kit's printer, with contracts of this session's own. Lean checks it.
import Derived.Test.YtmijlibnembkaaaMkPAx0
import Derived.Test.YtmijlibnembkaaaMkPAx14
import Derived.Test.YtmijlibnembkaaaMkPAx15
import Derived.Test.YtmijlibnembkaaaMkPAx16
import Derived.Test.YtmijlibnembkaaaMkPAx17
namespace Go.Proofs.Ytmijlibnembkaaa.PA
open Go.RowKit Go.Proofs.YtmijlibnembkaaaW.PrintWords Go.Proofs.YtmijlibnembkaaaW.PrintLast Go.Proofs.YtmijlibnembkaaaW.PrintMore
attribute [local go_sem] max2_int min2_int max_two min_two max_three min_three max_four min_four   -- for this text's walks alone
set_option linter.unusedVariables false
set_option maxHeartbeats 8000000
set_option maxRecDepth 100000
set_option linter.unusedSimpArgs false

/-! ### posternref04_Check: function 19 -/
mutual
def posternref04_Check.j0 : Nat → List (S43) → Bool → Option (Int × Int)
 | 0, _, _ => none
 | k + 1, x0, x26 => if x26 = true then (some (0, 40)) else (posternref04_Check.l0 k x0 0)
def posternref04_Check.l0 : Nat → List (S43) → Int → Option (Int × Int)
 | 0, _, _ => none
 | k + 1, x0, x4 => if x4 < (x0.length : Int) then ((posternref02_Plain.f k x0 x4).bind fun bt311 => (if bt311.2 = 0 then (if 0 ≤ x4 then ((posternref04_wrong.f k ((rd_T43 x0 x4).f0) ((rd_T43 x0 x4).f1) ((rd_T43 x0 x4).f2) ((rd_T43 x0 x4).f3) ((rd_T43 x0 x4).f4)).bind fun t314 => (if t314 = true then (some (x4, 42)) else (posternref04_Check.l0 k x0 (wrap64 (x4 + bt311.1))))) else (none)) else (some (x4, bt311.2)))) else ((posternref04_Begin.f k x0).bind fun t315 => ((posternref04_Parts.f k x0).bind fun t318 => (posternref04_Check.l1 k x0 t315 t318 t315 (t315.length : Int) 0)))
def posternref04_Check.l1 : Nat → List (S43) → List Int → List Int → List Int → Int → Int → Option (Int × Int)
 | 0, _, _, _, _, _, _ => none
 | k + 1, x0, x7, x8, x54, x55, x56 => if x56 < x55 then (if 0 ≤ x56 then (if x56 < (x54.length : Int) then ((posternref04_To.f k x0 (rd x54 x56)).bind fun bt322 => (if bt322.2 = true then ((posternref04_In.f k x7 bt322.1).bind fun t324 => (if t324 = true then (posternref04_Check.l1 k x0 x7 x8 x54 x55 (wrap64 (x56 + 1))) else (some (rd x54 x56, 43)))) else (posternref04_Check.l1 k x0 x7 x8 x54 x55 (wrap64 (x56 + 1))))) else (none)) else (none)) else (posternref04_Check.l2 k x0 x7 x8 x7 (x7.length : Int) 0)
def posternref04_Check.l2 : Nat → List (S43) → List Int → List Int → List Int → Int → Int → Option (Int × Int)
 | 0, _, _, _, _, _, _ => none
 | k + 1, x0, x7, x8, x75, x76, x77 => if x77 < x76 then (if 0 ≤ x77 then (if x77 < (x75.length : Int) then ((posternref04_To.f k x0 (rd x75 x77)).bind fun bt326 => (if bt326.2 = true then (if 0 ≤ (rd x75 x77) then (if (rd x75 x77) < (x0.length : Int) then (if ((rd_T43 x0 (rd x75 x77)).f0) = 133 then (posternref04_Check.l2 k x0 x7 x8 x75 x76 (wrap64 (x77 + 1))) else ((posternref04_Of.f k x8 bt326.1).bind fun t329 => ((posternref04_Of.f k x8 (rd x75 x77)).bind fun t330 => (if t329 = t330 then (posternref04_Check.l2 k x0 x7 x8 x75 x76 (wrap64 (x77 + 1))) else (some (rd x75 x77, 43)))))) else (none)) else (none)) else (posternref04_Check.l2 k x0 x7 x8 x75 x76 (wrap64 (x77 + 1))))) else (none)) else (none)) else (posternref04_Check.l3 k x0 x7 x8 x7 (x7.length : Int) 0)
def posternref04_Check.l3 : Nat → List (S43) → List Int → List Int → List Int → Int → Int → Option (Int × Int)
 | 0, _, _, _, _, _, _ => none
 | k + 1, x0, x7, x8, x107, x108, x109 => if x109 < x108 then (if 0 ≤ x109 then (if x109 < (x107.length : Int) then (if (wrap64 (x109 + 1)) < (x7.length : Int) then (if 0 ≤ (wrap64 (x109 + 1)) then ((posternref04_Of.f k x8 (rd x7 (wrap64 (x109 + 1)))).bind fun t333 => ((posternref04_Of.f k x8 (rd x107 x109)).bind fun t334 => (posternref04_Check.j5 k x0 x7 x8 (rd x107 x109) x107 x108 x109 (t333 == t334)))) else (none)) else (posternref04_Check.j5 k x0 x7 x8 (rd x107 x109) x107 x108 x109 false)) else (none)) else (none)) else (some (0, 0))
def posternref04_Check.j5 : Nat → List (S43) → List Int → List Int → Int → List Int → Int → Int → Bool → Option (Int × Int)
 | 0, _, _, _, _, _, _, _, _ => none
 | k + 1, x0, x7, x8, x18, x107, x108, x109, x131 => if x131 = true then (posternref04_Check.l3 k x0 x7 x8 x107 x108 (wrap64 (x109 + 1))) else (if 0 ≤ x18 then (if x18 < (x0.length : Int) then (if ((rd_T43 x0 x18).f0) = 149 then (posternref04_Check.l3 k x0 x7 x8 x107 x108 (wrap64 (x109 + 1))) else (if ((rd_T43 x0 x18).f0) = 5 then (posternref04_Check.l3 k x0 x7 x8 x107 x108 (wrap64 (x109 + 1))) else (some (x18, 44)))) else (none)) else (none))
end
def posternref04_Check.f (k : Nat) (l0 : List (S43)) : Option (Int × Int) := if (l0.length : Int) < 1 then (posternref04_Check.j0 k l0 true) else (posternref04_Check.j0 k l0 (decide ((l0.length : Int) > 256)))
theorem posternref04_Check.mono_l : ∀ k, (∀ y0 y1, LeO (posternref04_Check.j0 k y0 y1) (posternref04_Check.j0 (k + 1) y0 y1)) ∧ (∀ y0 y1, LeO (posternref04_Check.l0 k y0 y1) (posternref04_Check.l0 (k + 1) y0 y1)) ∧ (∀ y0 y1 y2 y3 y4 y5, LeO (posternref04_Check.l1 k y0 y1 y2 y3 y4 y5) (posternref04_Check.l1 (k + 1) y0 y1 y2 y3 y4 y5)) ∧ (∀ y0 y1 y2 y3 y4 y5, LeO (posternref04_Check.l2 k y0 y1 y2 y3 y4 y5) (posternref04_Check.l2 (k + 1) y0 y1 y2 y3 y4 y5)) ∧ (∀ y0 y1 y2 y3 y4 y5, LeO (posternref04_Check.l3 k y0 y1 y2 y3 y4 y5) (posternref04_Check.l3 (k + 1) y0 y1 y2 y3 y4 y5)) ∧ (∀ y0 y1 y2 y3 y4 y5 y6 y7, LeO (posternref04_Check.j5 k y0 y1 y2 y3 y4 y5 y6 y7) (posternref04_Check.j5 (k + 1) y0 y1 y2 y3 y4 y5 y6 y7))
 | 0 => by refine ⟨?_, ?_, ?_, ?_, ?_, ?_⟩ <;> (intros; intro r h; simp [posternref04_Check.j0, posternref04_Check.l0, posternref04_Check.l1, posternref04_Check.l2, posternref04_Check.l3, posternref04_Check.j5] at h)
 | k + 1 => by
  obtain ⟨ih0, ih1, ih2, ih3, ih4, ih5⟩ := posternref04_Check.mono_l k; refine ⟨?_, ?_, ?_, ?_, ?_, ?_⟩
  all_goals intros
  all_goals (first | unfold posternref04_Check.j0 | unfold posternref04_Check.l0 | unfold posternref04_Check.l1 | unfold posternref04_Check.l2 | unfold posternref04_Check.l3 | unfold posternref04_Check.j5)
  all_goals repeat' (with_reducible first | apply ih0 | apply ih1 | apply ih2 | apply ih3 | apply ih4 | apply ih5 | apply posternref02_Plain.mono | apply posternref04_Begin.mono | apply posternref04_In.mono | apply posternref04_Of.mono | apply posternref04_Parts.mono | apply posternref04_To.mono | apply posternref04_wrong.mono | exact LeO.refl _ | exact LeO.none _ | refine LeO.ite ?_ ?_ | refine LeO.bind ?_ (fun _ => ?_))
theorem posternref04_Check.mono : ∀ a0 k, LeO (posternref04_Check.f k a0) (posternref04_Check.f (k + 1) a0) := by
 intro a0 k; obtain ⟨ih0, ih1, ih2, ih3, ih4, ih5⟩ := posternref04_Check.mono_l k
 unfold posternref04_Check.f
 repeat' (with_reducible first | apply ih0 | apply ih1 | apply ih2 | apply ih3 | apply ih4 | apply ih5 | apply posternref02_Plain.mono | apply posternref04_Begin.mono | apply posternref04_In.mono | apply posternref04_Of.mono | apply posternref04_Parts.mono | apply posternref04_To.mono | apply posternref04_wrong.mono | exact LeO.refl _ | exact LeO.none _ | refine LeO.ite ?_ ?_ | refine LeO.bind ?_ (fun _ => ?_))
theorem posternref04_Check.calls (k : Nat) (A0 : Option Addr) (c0 : Nat) (l0 : List (S43)) (r1 : Int) (r2 : Int) (w : World) (hr0 : Kd.C k43 w A0 l0.length l0) (hc0 : l0.length ≤ c0) (h : posternref04_Check.f k l0 = some (r1, r2)) :
  Calls Try.prog 19 #[.slice A0 l0.length c0] w fun e w' => e = .returned (.tuple #[.int .i64 r1, .int .i64 r2]) ∧ Below w.heap.size w w' := by
 have hu43 := Try.underlying43; have HR0 := Aside0.mk hr0; have HC0 := Aside0.mk hc0; clear hr0 hc0; have HB := Aside0.mk (Below.refl w.heap.size w); have H : (if (l0.length : Int) < 1 then (posternref04_Check.j0 k l0 true) else (posternref04_Check.j0 k l0 (decide ((l0.length : Int) > 256)))) = some (r1, r2) := h; clear h; have HC2 := Aside0.mk H; clear H; go_enter Try.func19, Try.ntmps19
 go_upto_region 1 with (fail)
 go_cut [26] (fun v26 wc => ∃ (kq : Nat) (x26_1 : Bool), v26 = .bool x26_1 ∧ Aside0 (posternref04_Check.j0 kq l0 x26_1 = some (r1, r2)) ∧ Aside0 (kq ≤ k) ∧ Aside0 (Below w.heap.size w wc))
 case first =>
  have H := HC2.out; clear HC2
  by_cases c3 : (l0.length : Int) < 1
  ·
   rw [if_pos c3] at H
   have c3b0 := decide_eq_true c3; have c3b1 : decide (l0.length < 1) = true := decide_eq_true (by omega); clear c3; (first | rw [c3b0] | (simp only [i64_w, i32_w]; rw [c3b0]) | skip); have H' := Aside0.mk H; clear H; go_wp2; go_meet
   case rel => exact ⟨_, (true), eq_, H', ⟨by first | omega | exact Nat.le_refl _⟩, ⟨bl_ HB.out⟩⟩
  ·
   rw [if_neg c3] at H
   have c3b0 := decide_eq_false c3; have c3b1 : decide (l0.length < 1) = false := decide_eq_false (by omega); clear c3; (first | rw [c3b0] | (simp only [i64_w, i32_w]; rw [c3b0]) | skip); have H' := Aside0.mk H; clear H; go_wp2; go_meet
   case rel => exact ⟨_, (decide ((l0.length : Int) > 256)), eq_, H', ⟨by first | omega | exact Nat.le_refl _⟩, ⟨bl_ HB.out⟩⟩
 case rest =>
  clear HC2; (try clear c1); (try clear p2); (try clear c3); (try clear c3b0); (try clear c3b1); obtain ⟨kq, x26_1, rfl, HA, HJ1, HB⟩ := hcut
  cases kq with
  | zero => exact absurd HA.out (by simp [posternref04_Check.j0])
  | succ kj1 =>
   have H := HA.out; clear HA; simp only [posternref04_Check.j0] at H
   by_cases c4 : x26_1 = true
   ·
    subst c4
    rw [if_pos rfl] at H; simp only [Option.some.injEq, Prod.mk.injEq] at H; obtain ⟨rfl, rfl⟩ := H; go_wp2; go_ret2
    exact ⟨rr_, bl_ HB.out⟩
   ·
    replace c4 := Bool.eq_false_iff.mpr c4
    subst c4; rw [if_neg (show ¬ (false = true) by decide)] at H; have H' := Aside0.mk H; clear H; go_wp2; go_loopg [4] kj1 (fun kq v4 w' => ∃ (x4_2 : Int), v4 = .int .i64 x4_2 ∧ Aside0 (posternref04_Check.l0 kq l0 x4_2 = some (r1, r2)) ∧ Aside0 (kq ≤ kj1) ∧ Aside0 (Below w.heap.size w w'))
    case atStart => exact ⟨(0), eq_, H', ⟨Nat.le_refl _⟩, ⟨bl_ HB.out⟩⟩
    case round =>
     clear H'; (try clear c1); (try clear p2); (try clear c3); (try clear c3b0); (try clear c3b1); (try clear c4); obtain ⟨x4_2, rfl, HA, HK2, HB⟩ := hrel
     cases gk with
     | zero => exact absurd HA.out (by simp [posternref04_Check.l0])
     | succ k2 =>
      have H := HA.out; clear HA; simp only [posternref04_Check.l0] at H
      by_cases c5 : x4_2 < (l0.length : Int)
      ·
       rw [if_pos c5] at H
       have c5b0 := decide_eq_true c5; clear c5; replace H := bs_ H; obtain ⟨⟨t311, t312⟩, A6, H⟩ := H; (try dsimp only at H)
       by_cases c7 : t312 = 0
       ·
        rw [if_pos c7] at H
        have ⟨c7b0, c7b1⟩ := eqb_ c7; clear c7
        by_cases c8 : 0 ≤ x4_2
        ·
         rw [if_pos c8] at H
         have c8b0 := decide_eq_true c8; clear c8; replace H := bs_ H; obtain ⟨t314, A9, H⟩ := H; (try dsimp only at H)
         by_cases c10 : t314 = true
         ·
          subst c10
          rw [if_pos rfl] at H; simp only [Option.some.injEq, Prod.mk.injEq] at H; obtain ⟨rfl, rfl⟩ := H; go_wp2_with (first | ((with_reducible refine gate_callee (f := 34) rfl ?_); refine goesL_ (some 34) rfl rfl Try.func34 (by kernel_rfl) rfl #[.slice A0 l0.length c0, .int .i64 x4_2] rfl am_ ?_; (with_reducible refine (posternref02_Plain.calls k2 _ _ l0 x4_2 t311 t312 _ ?side1 ?side2 A6.out).mono ?_); (case side1 => exact cb_ (Kd.C_below HR0.out HB.out)); (case side2 => exact HC0.out); rintro e w11 ⟨rfl, hb⟩; refine ⟨_, rfl, ?_⟩; have n0_ := Aside0.mk (below_step (bl_ HB.out) hb); clear HB; have HB := n0_; clear n0_; (try clear hb); (try clear hb2); (try clear hk); (try clear hi); have p313 : 0 ≤ (x4_2 : Int) := of_decide_eq_true as_; have q313 : x4_2 < (l0.length : Int) := of_decide_eq_true as_; obtain ⟨ad313, e313, hx313_0, hx313_1, hx313_2, hx313_3, hx313_4⟩ := at_T43 (Kd.C_below HR0.out HB.out) x4_2 p313 q313; cases e313; replace p313 := eq_true p313; replace q313 := eq_true q313) | ((with_reducible refine gate_callee (f := 35) rfl ?_); refine goesL_ (some 45) rfl rfl Try.func35 (by kernel_rfl) rfl #[.agg #[.int .u8 ((rd_T43 l0 x4_2).f0), .int .u8 ((rd_T43 l0 x4_2).f1), .int .u8 ((rd_T43 l0 x4_2).f2), .int .i16 ((rd_T43 l0 x4_2).f3), .int .i32 ((rd_T43 l0 x4_2).f4)]] rfl am_ ?_; (with_reducible refine (posternref04_wrong.calls k2 ((rd_T43 l0 x4_2).f0) ((rd_T43 l0 x4_2).f1) ((rd_T43 l0 x4_2).f2) ((rd_T43 l0 x4_2).f3) ((rd_T43 l0 x4_2).f4) true _ A9.out).mono ?_); rintro e w12 ⟨rfl, hb⟩; refine ⟨_, rfl, ?_⟩; have n0_ := Aside0.mk (below_step (bl_ HB.out) hb); clear HB; have HB := n0_; clear n0_; (try clear hb); (try clear hb2); (try clear hk); (try clear hi)))
          go_ret2
          exact ⟨rr_, bl_ HB.out⟩
         ·
          replace c10 := Bool.eq_false_iff.mpr c10
          subst c10; rw [if_neg (show ¬ (false = true) by decide)] at H; have H' := Aside0.mk H; clear H; go_wp2_with (first | ((with_reducible refine gate_callee (f := 34) rfl ?_); refine goesL_ (some 34) rfl rfl Try.func34 (by kernel_rfl) rfl #[.slice A0 l0.length c0, .int .i64 x4_2] rfl am_ ?_; (with_reducible refine (posternref02_Plain.calls k2 _ _ l0 x4_2 t311 t312 _ ?side1 ?side2 A6.out).mono ?_); (case side1 => exact cb_ (Kd.C_below HR0.out HB.out)); (case side2 => exact HC0.out); rintro e w13 ⟨rfl, hb⟩; refine ⟨_, rfl, ?_⟩; have n0_ := Aside0.mk (below_step (bl_ HB.out) hb); clear HB; have HB := n0_; clear n0_; (try clear hb); (try clear hb2); (try clear hk); (try clear hi); have p313 : 0 ≤ (x4_2 : Int) := of_decide_eq_true as_; have q313 : x4_2 < (l0.length : Int) := of_decide_eq_true as_; obtain ⟨ad313, e313, hx313_0, hx313_1, hx313_2, hx313_3, hx313_4⟩ := at_T43 (Kd.C_below HR0.out HB.out) x4_2 p313 q313; cases e313; replace p313 := eq_true p313; replace q313 := eq_true q313) | ((with_reducible refine gate_callee (f := 35) rfl ?_); refine goesL_ (some 45) rfl rfl Try.func35 (by kernel_rfl) rfl #[.agg #[.int .u8 ((rd_T43 l0 x4_2).f0), .int .u8 ((rd_T43 l0 x4_2).f1), .int .u8 ((rd_T43 l0 x4_2).f2), .int .i16 ((rd_T43 l0 x4_2).f3), .int .i32 ((rd_T43 l0 x4_2).f4)]] rfl am_ ?_; (with_reducible refine (posternref04_wrong.calls k2 ((rd_T43 l0 x4_2).f0) ((rd_T43 l0 x4_2).f1) ((rd_T43 l0 x4_2).f2) ((rd_T43 l0 x4_2).f3) ((rd_T43 l0 x4_2).f4) false _ A9.out).mono ?_); rintro e w14 ⟨rfl, hb⟩; refine ⟨_, rfl, ?_⟩; have n0_ := Aside0.mk (below_step (bl_ HB.out) hb); clear HB; have HB := n0_; clear n0_; (try clear hb); (try clear hb2); (try clear hk); (try clear hi)))
          go_roundg k2
          case measure => have := HJ1.out; have := HK2.out; omega
          case rel => exact ⟨(wrap64 (x4_2 + t311)), eq_, H', ⟨by have := HJ1.out; have := HK2.out; omega⟩, ⟨bl_ HB.out⟩⟩
        ·
         rw [if_neg c8] at H
         exact absurd H (by simp)
       ·
        rw [if_neg c7] at H
        have ⟨c7b0, c7b1⟩ := nqb_ c7; simp only [Option.some.injEq, Prod.mk.injEq] at H; obtain ⟨rfl, rfl⟩ := H; go_wp2_with (first | ((with_reducible refine gate_callee (f := 34) rfl ?_); refine goesL_ (some 34) rfl rfl Try.func34 (by kernel_rfl) rfl #[.slice A0 l0.length c0, .int .i64 x4_2] rfl am_ ?_; (with_reducible refine (posternref02_Plain.calls k2 _ _ l0 x4_2 t311 t312 _ ?side1 ?side2 A6.out).mono ?_); (case side1 => exact cb_ (Kd.C_below HR0.out HB.out)); (case side2 => exact HC0.out); rintro e w15 ⟨rfl, hb⟩; refine ⟨_, rfl, ?_⟩; have n0_ := Aside0.mk (below_step (bl_ HB.out) hb); clear HB; have HB := n0_; clear n0_; (try clear hb); (try clear hb2); (try clear hk); (try clear hi)))
        go_ret2
        exact ⟨rr_, bl_ HB.out⟩
      ·
       rw [if_neg c5] at H
       have c5b0 := decide_eq_false c5; clear c5; replace H := bs_ H; obtain ⟨t315, A16, H⟩ := H; (try dsimp only at H); replace H := bs_ H; obtain ⟨t318, A17, H⟩ := H; (try dsimp only at H); have H' := Aside0.mk H; clear H; go_wp2_with (first | ((with_reducible refine gate_callee (f := 20) rfl ?_); refine goesL_ (some 51) rfl rfl Try.func20 (by kernel_rfl) rfl #[.slice A0 l0.length c0] rfl am_ ?_; (with_reducible refine (posternref04_Begin.calls k2 _ _ l0 t315 _ ?side1 ?side2 A16.out).mono ?_); (case side1 => exact cb_ (Kd.C_below HR0.out HB.out)); (case side2 => exact HC0.out); rintro e w18 ⟨v316, rfl, ho0, hb⟩; refine ⟨_, rfl, ?_⟩; have n_ : _ ∧ _ := ⟨k_ (Kd.R_lower ho0 (below_size (bl_ HB.out))), k_ (below_step (bl_ HB.out) hb)⟩; clear HB; obtain ⟨HO317, HB⟩ := n_; (try clear hb); (try clear hb2); (try clear hk); (try clear hi); (try clear ho0)) | ((with_reducible refine gate_callee (f := 36) rfl ?_); refine goesL_ (some 53) rfl rfl Try.func36 (by kernel_rfl) rfl #[.slice A0 l0.length c0] rfl am_ ?_; (with_reducible refine (posternref04_Parts.calls k2 _ _ l0 t318 _ ?side1 ?side2 A17.out).mono ?_); (case side1 => exact cb_ (Kd.C_below HR0.out HB.out)); (case side2 => exact HC0.out); rintro e w19 ⟨v319, rfl, ho0, hb⟩; refine ⟨_, rfl, ?_⟩; have n_ : _ ∧ _ ∧ _ := ⟨k_ (Kd.R_elder' (mv_ HO317.out) (Kd.R_base ho0) hb), k_ (Kd.R_lower (Kd.R_new' ho0 (Kd.R_lt (mv_ HO317.out))) (below_size (bl_ HB.out))), k_ (below_step (bl_ HB.out) hb)⟩; clear HO317 HB; obtain ⟨HO317, HO320, HB⟩ := n_; (try clear hb); (try clear hb2); (try clear hk); (try clear hi); (try clear ho0); obtain ⟨Ao20, co20, eo20⟩ := Kd.R_slice HO317.out; subst eo20))
       go_loopg [56] k2 (fun kq v56 w' => ∃ (x56_3 : Int), v56 = .int .i64 x56_3 ∧ Aside0 (posternref04_Check.l1 kq l0 t315 t318 t315 (t315.length : Int) x56_3 = some (r1, r2)) ∧ Aside0 (kq ≤ k2) ∧ Aside0 (Kd.R (Kd.int .i64) 3 w' w.heap.size (fun k_ => some k_ ≠ (v319 : Value).ownBlock) (.slice Ao20 t315.length co20) t315) ∧ Aside0 (Kd.R (Kd.int .i64) 3 w' w.heap.size (fun k_ => some k_ ≠ ((.slice Ao20 t315.length co20) : Value).ownBlock ∧ some k_ ≠ ((.slice Ao20 t315.length co20) : Value).ownBlock) v319 t318) ∧ Aside0 (Kd.R (Kd.int .i64) 3 w' w.heap.size (fun k_ => some k_ ≠ (v319 : Value).ownBlock) (.slice Ao20 t315.length co20) t315) ∧ Aside0 (Below w.heap.size w w'))
       case atStart => exact ⟨(0), eq_, H', ⟨Nat.le_refl _⟩, ⟨by (with_reducible repeat (first | apply ra_ | apply rn_ | apply rw_)); exact Kd.R_mono HO317.out (fun _ hk => hk.2)⟩, ⟨by (with_reducible repeat (first | apply ra_ | apply rn_ | apply rw_)); exact Kd.R_mono HO320.out (fun _ hk => ⟨hk.2, hk.2⟩)⟩, ⟨by (with_reducible repeat (first | apply ra_ | apply rn_ | apply rw_)); exact Kd.R_mono HO317.out (fun _ hk => hk.2)⟩, ⟨bl_ HB.out⟩⟩
       case round =>
        clear H'; (try clear c1); (try clear c2); (try clear p2); (try clear c3); (try clear c3b0); (try clear c3b1); (try clear p3); (try clear q3); (try clear hx3); (try clear c4); (try clear c5); (try clear c5b0); (try clear p6); (try clear c7); (try clear c7b0); (try clear c7b1); (try clear c8); (try clear c8b0); (try clear c10); (try clear c19); (try clear c20); (try clear hx313_0); (try clear hx313_1); (try clear hx313_2); (try clear hx313_3); (try clear hx313_4); (try clear p313); (try clear q313); obtain ⟨x56_3, rfl, HA, HK3, HO_7, HO_8, HO_54, HB⟩ := hrel
        cases gk with
        | zero => exact absurd HA.out (by simp [posternref04_Check.l1])
        | succ k3 =>
         have H := HA.out; clear HA; simp only [posternref04_Check.l1] at H
         by_cases c21 : x56_3 < (t315.length : Int)
         ·
          rw [if_pos c21] at H
          have c21b0 := decide_eq_true c21; clear c21
          by_cases c22 : 0 ≤ x56_3
          ·
           rw [if_pos c22] at H
           have c22b0 := decide_eq_true c22; clear c22
           by_cases c23 : x56_3 < (t315.length : Int)
           ·
            rw [if_pos c23] at H
            have c23b0 := decide_eq_true c23; clear c23; replace H := bs_ H; obtain ⟨⟨t322, t323⟩, A24, H⟩ := H; (try dsimp only at H)
            by_cases c25 : t323 = true
            ·
             subst c25
             rw [if_pos rfl] at H; replace H := bs_ H; obtain ⟨t324, A26, H⟩ := H; (try dsimp only at H)
             by_cases c27 : t324 = true
             ·
              subst c27
              rw [if_pos rfl] at H; have H' := Aside0.mk H; clear H; have p321 : 0 ≤ (x56_3 : Int) := of_decide_eq_true as_; have q321 : x56_3 < (t315.length : Int) := of_decide_eq_true as_; obtain ⟨ad321, e321, hx321_0⟩ := Kd.at_int (Kd.R_reads' HO_54.out).2.2 x56_3 p321 q321
              cases e321
              replace p321 := eq_true p321; replace q321 := eq_true q321; go_wp2_with (first | ((with_reducible refine gate_callee (f := 21) rfl ?_); refine goesL_ (some 63) rfl rfl Try.func21 (by kernel_rfl) rfl #[.slice A0 l0.length c0, .int .i64 (rd t315 x56_3)] rfl am_ ?_; (with_reducible refine (posternref04_To.calls k3 _ _ l0 (rd t315 x56_3) t322 true _ ?side1 ?side2 A24.out).mono ?_); (case side1 => exact cb_ (Kd.C_below HR0.out HB.out)); (case side2 => exact HC0.out); rintro e w28 ⟨rfl, hb⟩; refine ⟨_, rfl, ?_⟩; have n_ : _ ∧ _ ∧ _ ∧ _ := ⟨k_ (Kd.R_below (mv_ HO_7.out) hb), k_ (Kd.R_below (mv_ HO_8.out) hb), k_ (Kd.R_below (mv_ HO_54.out) hb), k_ (below_step (bl_ HB.out) hb)⟩; clear HO_7 HO_8 HO_54 HB; obtain ⟨HO_7, HO_8, HO_54, HB⟩ := n_; (try clear hb); (try clear hb2); (try clear hk); (try clear hi)) | (go_at_call 24; (with_reducible refine (posternref04_In.calls k3 _ _ t315 t322 true _ ?side1 ?side2 A26.out).mono ?_); (case side1 => exact cb_ (Kd.R_reads' HO_7.out).2.2); (case side2 => exact (Kd.R_reads' HO_7.out).2.1); rintro e w' ⟨rfl, ⟨nd, rfl⟩⟩))
              go_roundg k3
              case measure => have := HJ1.out; have := HK2.out; have := HK3.out; omega
              case rel => exact ⟨(wrap64 (x56_3 + 1)), eq_, H', ⟨by have := HJ1.out; have := HK2.out; have := HK3.out; omega⟩, ⟨mv_ HO_7.out⟩, ⟨mv_ HO_8.out⟩, ⟨mv_ HO_54.out⟩, ⟨bl_ HB.out⟩⟩
             ·
              replace c27 := Bool.eq_false_iff.mpr c27
              subst c27; rw [if_neg (show ¬ (false = true) by decide)] at H; simp only [Option.some.injEq, Prod.mk.injEq] at H; obtain ⟨rfl, rfl⟩ := H; have p321 : 0 ≤ (x56_3 : Int) := of_decide_eq_true as_; have q321 : x56_3 < (t315.length : Int) := of_decide_eq_true as_; obtain ⟨ad321, e321, hx321_0⟩ := Kd.at_int (Kd.R_reads' HO_54.out).2.2 x56_3 p321 q321
              cases e321
              replace p321 := eq_true p321; replace q321 := eq_true q321; go_wp2_with (first | ((with_reducible refine gate_callee (f := 21) rfl ?_); refine goesL_ (some 63) rfl rfl Try.func21 (by kernel_rfl) rfl #[.slice A0 l0.length c0, .int .i64 (rd t315 x56_3)] rfl am_ ?_; (with_reducible refine (posternref04_To.calls k3 _ _ l0 (rd t315 x56_3) t322 true _ ?side1 ?side2 A24.out).mono ?_); (case side1 => exact cb_ (Kd.C_below HR0.out HB.out)); (case side2 => exact HC0.out); rintro e w29 ⟨rfl, hb⟩; refine ⟨_, rfl, ?_⟩; have n_ : _ ∧ _ ∧ _ ∧ _ := ⟨k_ (Kd.R_below (mv_ HO_7.out) hb), k_ (Kd.R_below (mv_ HO_8.out) hb), k_ (Kd.R_below (mv_ HO_54.out) hb), k_ (below_step (bl_ HB.out) hb)⟩; clear HO_7 HO_8 HO_54 HB; obtain ⟨HO_7, HO_8, HO_54, HB⟩ := n_; (try clear hb); (try clear hb2); (try clear hk); (try clear hi)) | (go_at_call 24; (with_reducible refine (posternref04_In.calls k3 _ _ t315 t322 false _ ?side1 ?side2 A26.out).mono ?_); (case side1 => exact cb_ (Kd.R_reads' HO_7.out).2.2); (case side2 => exact (Kd.R_reads' HO_7.out).2.1); rintro e w' ⟨rfl, ⟨nd, rfl⟩⟩))
              go_ret2
              exact ⟨rr_, bl_ HB.out⟩
            ·
             replace c25 := Bool.eq_false_iff.mpr c25
             subst c25; rw [if_neg (show ¬ (false = true) by decide)] at H; have H' := Aside0.mk H; clear H; have p321 : 0 ≤ (x56_3 : Int) := of_decide_eq_true as_; have q321 : x56_3 < (t315.length : Int) := of_decide_eq_true as_; obtain ⟨ad321, e321, hx321_0⟩ := Kd.at_int (Kd.R_reads' HO_54.out).2.2 x56_3 p321 q321
             cases e321
             replace p321 := eq_true p321; replace q321 := eq_true q321; go_wp2_with (first | ((with_reducible refine gate_callee (f := 21) rfl ?_); refine goesL_ (some 63) rfl rfl Try.func21 (by kernel_rfl) rfl #[.slice A0 l0.length c0, .int .i64 (rd t315 x56_3)] rfl am_ ?_; (with_reducible refine (posternref04_To.calls k3 _ _ l0 (rd t315 x56_3) t322 false _ ?side1 ?side2 A24.out).mono ?_); (case side1 => exact cb_ (Kd.C_below HR0.out HB.out)); (case side2 => exact HC0.out); rintro e w30 ⟨rfl, hb⟩; refine ⟨_, rfl, ?_⟩; have n_ : _ ∧ _ ∧ _ ∧ _ := ⟨k_ (Kd.R_below (mv_ HO_7.out) hb), k_ (Kd.R_below (mv_ HO_8.out) hb), k_ (Kd.R_below (mv_ HO_54.out) hb), k_ (below_step (bl_ HB.out) hb)⟩; clear HO_7 HO_8 HO_54 HB; obtain ⟨HO_7, HO_8, HO_54, HB⟩ := n_; (try clear hb); (try clear hb2); (try clear hk); (try clear hi)))
             go_roundg k3
             case measure => have := HJ1.out; have := HK2.out; have := HK3.out; omega
             case rel => exact ⟨(wrap64 (x56_3 + 1)), eq_, H', ⟨by have := HJ1.out; have := HK2.out; have := HK3.out; omega⟩, ⟨mv_ HO_7.out⟩, ⟨mv_ HO_8.out⟩, ⟨mv_ HO_54.out⟩, ⟨bl_ HB.out⟩⟩
           ·
            rw [if_neg c23] at H
            exact absurd H (by simp)
          ·
           rw [if_neg c22] at H
           exact absurd H (by simp)
         ·
          rw [if_neg c21] at H
          have c21b0 := decide_eq_false c21; clear c21; have H' := Aside0.mk H; clear H; go_wp2; go_loopg [77] k3 (fun kq v77 w' => ∃ (x77_4 : Int), v77 = .int .i64 x77_4 ∧ Aside0 (posternref04_Check.l2 kq l0 t315 t318 t315 (t315.length : Int) x77_4 = some (r1, r2)) ∧ Aside0 (kq ≤ k3) ∧ Aside0 (Kd.R (Kd.int .i64) 3 w' w.heap.size (fun k_ => some k_ ≠ (v319 : Value).ownBlock) (.slice Ao20 t315.length co20) t315) ∧ Aside0 (Kd.R (Kd.int .i64) 3 w' w.heap.size (fun k_ => some k_ ≠ ((.slice Ao20 t315.length co20) : Value).ownBlock ∧ some k_ ≠ ((.slice Ao20 t315.length co20) : Value).ownBlock) v319 t318) ∧ Aside0 (Kd.R (Kd.int .i64) 3 w' w.heap.size (fun k_ => some k_ ≠ (v319 : Value).ownBlock) (.slice Ao20 t315.length co20) t315) ∧ Aside0 (Below w.heap.size w w'))
          case atStart => exact ⟨(0), eq_, H', ⟨Nat.le_refl _⟩, ⟨mv_ HO_7.out⟩, ⟨by (with_reducible repeat (first | apply ra_ | apply rn_ | apply rw_)); exact Kd.R_mono HO_8.out (fun _ hk => ⟨hk.1, hk.1⟩)⟩, ⟨mv_ HO_7.out⟩, ⟨bl_ HB.out⟩⟩
          case round =>
           clear H'; (try clear c1); (try clear c2); (try clear p2); (try clear c3); (try clear c3b0); (try clear c3b1); (try clear p3); (try clear q3); (try clear hx3); (try clear c4); (try clear c5); (try clear c5b0); (try clear p6); (try clear c7); (try clear c7b0); (try clear c7b1); (try clear c8); (try clear c8b0); (try clear c10); (try clear c19); (try clear c20); (try clear c21); (try clear c21b0); (try clear c22); (try clear c22b0); (try clear c23); (try clear c23b0); (try clear c25); (try clear c27); (try clear hx313_0); (try clear hx313_1); (try clear hx313_2); (try clear hx313_3); (try clear hx313_4); (try clear hx321_0); (try clear p313); (try clear p321); (try clear q313); (try clear q321); obtain ⟨x77_4, rfl, HA, HK4, HO_7, HO_8, HO_75, HB⟩ := hrel
           cases gk with
           | zero => exact absurd HA.out (by simp [posternref04_Check.l2])
           | succ k4 =>
            have H := HA.out; clear HA; simp only [posternref04_Check.l2] at H
            by_cases c31 : x77_4 < (t315.length : Int)
            ·
             rw [if_pos c31] at H
             have c31b0 := decide_eq_true c31; clear c31
             by_cases c32 : 0 ≤ x77_4
             ·
              rw [if_pos c32] at H
              have c32b0 := decide_eq_true c32; clear c32
              by_cases c33 : x77_4 < (t315.length : Int)
              ·
               rw [if_pos c33] at H
               have c33b0 := decide_eq_true c33; clear c33; replace H := bs_ H; obtain ⟨⟨t326, t327⟩, A34, H⟩ := H; (try dsimp only at H)
               by_cases c35 : t327 = true
               ·
                subst c35
                rw [if_pos rfl] at H
                by_cases c36 : 0 ≤ (rd t315 x77_4)
                ·
                 rw [if_pos c36] at H
                 have c36b0 := decide_eq_true c36; clear c36
                 by_cases c37 : (rd t315 x77_4) < (l0.length : Int)
                 ·
                  rw [if_pos c37] at H
                  have c37b0 := decide_eq_true c37; clear c37
                  by_cases c38 : ((rd_T43 l0 (rd t315 x77_4)).f0) = 133
                  ·
                   rw [if_pos c38] at H
                   have ⟨c38b0, c38b1⟩ := eqb_ c38; clear c38; have H' := Aside0.mk H; clear H; have p325 : 0 ≤ (x77_4 : Int) := of_decide_eq_true as_; have q325 : x77_4 < (t315.length : Int) := of_decide_eq_true as_; obtain ⟨ad325, e325, hx325_0⟩ := Kd.at_int (Kd.R_reads' HO_75.out).2.2 x77_4 p325 q325
                   cases e325
                   replace p325 := eq_true p325; replace q325 := eq_true q325; go_wp2_with (first | ((with_reducible refine gate_callee (f := 21) rfl ?_); refine goesL_ (some 84) rfl rfl Try.func21 (by kernel_rfl) rfl #[.slice A0 l0.length c0, .int .i64 (rd t315 x77_4)] rfl am_ ?_; (with_reducible refine (posternref04_To.calls k4 _ _ l0 (rd t315 x77_4) t326 true _ ?side1 ?side2 A34.out).mono ?_); (case side1 => exact cb_ (Kd.C_below HR0.out HB.out)); (case side2 => exact HC0.out); rintro e w39 ⟨rfl, hb⟩; refine ⟨_, rfl, ?_⟩; have n_ : _ ∧ _ ∧ _ ∧ _ := ⟨k_ (Kd.R_below (mv_ HO_7.out) hb), k_ (Kd.R_below (mv_ HO_8.out) hb), k_ (Kd.R_below (mv_ HO_75.out) hb), k_ (below_step (bl_ HB.out) hb)⟩; clear HO_7 HO_8 HO_75 HB; obtain ⟨HO_7, HO_8, HO_75, HB⟩ := n_; (try clear hb); (try clear hb2); (try clear hk); (try clear hi); have p328 : 0 ≤ ((rd t315 x77_4) : Int) := of_decide_eq_true as_; have q328 : (rd t315 x77_4) < (l0.length : Int) := of_decide_eq_true as_; obtain ⟨ad328, e328, hx328_0, hx328_1, hx328_2, hx328_3, hx328_4⟩ := at_T43 (Kd.C_below HR0.out HB.out) (rd t315 x77_4) p328 q328; cases e328; replace p328 := eq_true p328; replace q328 := eq_true q328))
                   go_roundg k4
                   case measure => have := HJ1.out; have := HK2.out; have := HK3.out; have := HK4.out; omega
                   case rel => exact ⟨(wrap64 (x77_4 + 1)), eq_, H', ⟨by have := HJ1.out; have := HK2.out; have := HK3.out; have := HK4.out; omega⟩, ⟨mv_ HO_7.out⟩, ⟨mv_ HO_8.out⟩, ⟨mv_ HO_75.out⟩, ⟨bl_ HB.out⟩⟩
                  ·
                   rw [if_neg c38] at H
                   have ⟨c38b0, c38b1⟩ := nqb_ c38; replace H := bs_ H; obtain ⟨t329, A40, H⟩ := H; (try dsimp only at H); replace H := bs_ H; obtain ⟨t330, A41, H⟩ := H; (try dsimp only at H)
                   by_cases c42 : t329 = t330
                   ·
                    rw [if_pos c42] at H
                    have ⟨c42b0, c42b1⟩ := eqb_ c42; clear c42; have H' := Aside0.mk H; clear H; have p325 : 0 ≤ (x77_4 : Int) := of_decide_eq_true as_; have q325 : x77_4 < (t315.length : Int) := of_decide_eq_true as_; obtain ⟨ad325, e325, hx325_0⟩ := Kd.at_int (Kd.R_reads' HO_75.out).2.2 x77_4 p325 q325
                    cases e325
                    replace p325 := eq_true p325; replace q325 := eq_true q325; go_wp2_with (first | ((with_reducible refine gate_callee (f := 21) rfl ?_); refine goesL_ (some 84) rfl rfl Try.func21 (by kernel_rfl) rfl #[.slice A0 l0.length c0, .int .i64 (rd t315 x77_4)] rfl am_ ?_; (with_reducible refine (posternref04_To.calls k4 _ _ l0 (rd t315 x77_4) t326 true _ ?side1 ?side2 A34.out).mono ?_); (case side1 => exact cb_ (Kd.C_below HR0.out HB.out)); (case side2 => exact HC0.out); rintro e w43 ⟨rfl, hb⟩; refine ⟨_, rfl, ?_⟩; have n_ : _ ∧ _ ∧ _ ∧ _ := ⟨k_ (Kd.R_below (mv_ HO_7.out) hb), k_ (Kd.R_below (mv_ HO_8.out) hb), k_ (Kd.R_below (mv_ HO_75.out) hb), k_ (below_step (bl_ HB.out) hb)⟩; clear HO_7 HO_8 HO_75 HB; obtain ⟨HO_7, HO_8, HO_75, HB⟩ := n_; (try clear hb); (try clear hb2); (try clear hk); (try clear hi); have p328 : 0 ≤ ((rd t315 x77_4) : Int) := of_decide_eq_true as_; have q328 : (rd t315 x77_4) < (l0.length : Int) := of_decide_eq_true as_; obtain ⟨ad328, e328, hx328_0, hx328_1, hx328_2, hx328_3, hx328_4⟩ := at_T43 (Kd.C_below HR0.out HB.out) (rd t315 x77_4) p328 q328; cases e328; replace p328 := eq_true p328; replace q328 := eq_true q328; obtain ⟨Ao44, co44, eo44⟩ := Kd.R_slice HO_8.out; subst eo44) | (go_at_call 37; (with_reducible refine (posternref04_Of.calls k4 _ _ t318 t326 t329 _ ?side1 ?side2 A40.out).mono ?_); (case side1 => exact cb_ (Kd.R_reads' HO_8.out).2.2); (case side2 => exact (Kd.R_reads' HO_8.out).2.1); rintro e w' ⟨rfl, ⟨nd, rfl⟩⟩) | (go_at_call 37; (with_reducible refine (posternref04_Of.calls k4 _ _ t318 (rd t315 x77_4) t330 _ ?side1 ?side2 A41.out).mono ?_); (case side1 => exact cb_ (Kd.R_reads' HO_8.out).2.2); (case side2 => exact (Kd.R_reads' HO_8.out).2.1); rintro e w' ⟨rfl, ⟨nd, rfl⟩⟩))
                    go_roundg k4
                    case measure => have := HJ1.out; have := HK2.out; have := HK3.out; have := HK4.out; omega
                    case rel => exact ⟨(wrap64 (x77_4 + 1)), eq_, H', ⟨by have := HJ1.out; have := HK2.out; have := HK3.out; have := HK4.out; omega⟩, ⟨mv_ HO_7.out⟩, ⟨mv_ HO_8.out⟩, ⟨mv_ HO_75.out⟩, ⟨bl_ HB.out⟩⟩
                   ·
                    rw [if_neg c42] at H
                    have ⟨c42b0, c42b1⟩ := nqb_ c42; simp only [Option.some.injEq, Prod.mk.injEq] at H; obtain ⟨rfl, rfl⟩ := H; have p325 : 0 ≤ (x77_4 : Int) := of_decide_eq_true as_; have q325 : x77_4 < (t315.length : Int) := of_decide_eq_true as_; obtain ⟨ad325, e325, hx325_0⟩ := Kd.at_int (Kd.R_reads' HO_75.out).2.2 x77_4 p325 q325
                    cases e325
                    replace p325 := eq_true p325; replace q325 := eq_true q325; go_wp2_with (first | ((with_reducible refine gate_callee (f := 21) rfl ?_); refine goesL_ (some 84) rfl rfl Try.func21 (by kernel_rfl) rfl #[.slice A0 l0.length c0, .int .i64 (rd t315 x77_4)] rfl am_ ?_; (with_reducible refine (posternref04_To.calls k4 _ _ l0 (rd t315 x77_4) t326 true _ ?side1 ?side2 A34.out).mono ?_); (case side1 => exact cb_ (Kd.C_below HR0.out HB.out)); (case side2 => exact HC0.out); rintro e w45 ⟨rfl, hb⟩; refine ⟨_, rfl, ?_⟩; have n_ : _ ∧ _ ∧ _ ∧ _ := ⟨k_ (Kd.R_below (mv_ HO_7.out) hb), k_ (Kd.R_below (mv_ HO_8.out) hb), k_ (Kd.R_below (mv_ HO_75.out) hb), k_ (below_step (bl_ HB.out) hb)⟩; clear HO_7 HO_8 HO_75 HB; obtain ⟨HO_7, HO_8, HO_75, HB⟩ := n_; (try clear hb); (try clear hb2); (try clear hk); (try clear hi); have p328 : 0 ≤ ((rd t315 x77_4) : Int) := of_decide_eq_true as_; have q328 : (rd t315 x77_4) < (l0.length : Int) := of_decide_eq_true as_; obtain ⟨ad328, e328, hx328_0, hx328_1, hx328_2, hx328_3, hx328_4⟩ := at_T43 (Kd.C_below HR0.out HB.out) (rd t315 x77_4) p328 q328; cases e328; replace p328 := eq_true p328; replace q328 := eq_true q328; obtain ⟨Ao46, co46, eo46⟩ := Kd.R_slice HO_8.out; subst eo46) | (go_at_call 37; (with_reducible refine (posternref04_Of.calls k4 _ _ t318 t326 t329 _ ?side1 ?side2 A40.out).mono ?_); (case side1 => exact cb_ (Kd.R_reads' HO_8.out).2.2); (case side2 => exact (Kd.R_reads' HO_8.out).2.1); rintro e w' ⟨rfl, ⟨nd, rfl⟩⟩) | (go_at_call 37; (with_reducible refine (posternref04_Of.calls k4 _ _ t318 (rd t315 x77_4) t330 _ ?side1 ?side2 A41.out).mono ?_); (case side1 => exact cb_ (Kd.R_reads' HO_8.out).2.2); (case side2 => exact (Kd.R_reads' HO_8.out).2.1); rintro e w' ⟨rfl, ⟨nd, rfl⟩⟩))
                    go_ret2
                    exact ⟨rr_, bl_ HB.out⟩
                 ·
                  rw [if_neg c37] at H
                  exact absurd H (by simp)
                ·
                 rw [if_neg c36] at H
                 exact absurd H (by simp)
               ·
                replace c35 := Bool.eq_false_iff.mpr c35
                subst c35; rw [if_neg (show ¬ (false = true) by decide)] at H; have H' := Aside0.mk H; clear H; have p325 : 0 ≤ (x77_4 : Int) := of_decide_eq_true as_; have q325 : x77_4 < (t315.length : Int) := of_decide_eq_true as_; obtain ⟨ad325, e325, hx325_0⟩ := Kd.at_int (Kd.R_reads' HO_75.out).2.2 x77_4 p325 q325
                cases e325
                replace p325 := eq_true p325; replace q325 := eq_true q325; go_wp2_with (first | ((with_reducible refine gate_callee (f := 21) rfl ?_); refine goesL_ (some 84) rfl rfl Try.func21 (by kernel_rfl) rfl #[.slice A0 l0.length c0, .int .i64 (rd t315 x77_4)] rfl am_ ?_; (with_reducible refine (posternref04_To.calls k4 _ _ l0 (rd t315 x77_4) t326 false _ ?side1 ?side2 A34.out).mono ?_); (case side1 => exact cb_ (Kd.C_below HR0.out HB.out)); (case side2 => exact HC0.out); rintro e w47 ⟨rfl, hb⟩; refine ⟨_, rfl, ?_⟩; have n_ : _ ∧ _ ∧ _ ∧ _ := ⟨k_ (Kd.R_below (mv_ HO_7.out) hb), k_ (Kd.R_below (mv_ HO_8.out) hb), k_ (Kd.R_below (mv_ HO_75.out) hb), k_ (below_step (bl_ HB.out) hb)⟩; clear HO_7 HO_8 HO_75 HB; obtain ⟨HO_7, HO_8, HO_75, HB⟩ := n_; (try clear hb); (try clear hb2); (try clear hk); (try clear hi)))
                go_roundg k4
                case measure => have := HJ1.out; have := HK2.out; have := HK3.out; have := HK4.out; omega
                case rel => exact ⟨(wrap64 (x77_4 + 1)), eq_, H', ⟨by have := HJ1.out; have := HK2.out; have := HK3.out; have := HK4.out; omega⟩, ⟨mv_ HO_7.out⟩, ⟨mv_ HO_8.out⟩, ⟨mv_ HO_75.out⟩, ⟨bl_ HB.out⟩⟩
              ·
               rw [if_neg c33] at H
               exact absurd H (by simp)
             ·
              rw [if_neg c32] at H
              exact absurd H (by simp)
            ·
             rw [if_neg c31] at H
             have c31b0 := decide_eq_false c31; clear c31; have H' := Aside0.mk H; clear H; go_wp2; go_loopg [109] k4 (fun kq v109 w' => ∃ (x109_5 : Int), v109 = .int .i64 x109_5 ∧ Aside0 (posternref04_Check.l3 kq l0 t315 t318 t315 (t315.length : Int) x109_5 = some (r1, r2)) ∧ Aside0 (kq ≤ k4) ∧ Aside0 (Kd.R (Kd.int .i64) 3 w' w.heap.size (fun k_ => some k_ ≠ (v319 : Value).ownBlock) (.slice Ao20 t315.length co20) t315) ∧ Aside0 (Kd.R (Kd.int .i64) 3 w' w.heap.size (fun k_ => some k_ ≠ ((.slice Ao20 t315.length co20) : Value).ownBlock ∧ some k_ ≠ ((.slice Ao20 t315.length co20) : Value).ownBlock) v319 t318) ∧ Aside0 (Kd.R (Kd.int .i64) 3 w' w.heap.size (fun k_ => some k_ ≠ (v319 : Value).ownBlock) (.slice Ao20 t315.length co20) t315) ∧ Aside0 (Below w.heap.size w w'))
             case atStart => exact ⟨(0), eq_, H', ⟨Nat.le_refl _⟩, ⟨mv_ HO_7.out⟩, ⟨by (with_reducible repeat (first | apply ra_ | apply rn_ | apply rw_)); exact Kd.R_mono HO_8.out (fun _ hk => ⟨hk.1, hk.1⟩)⟩, ⟨mv_ HO_7.out⟩, ⟨bl_ HB.out⟩⟩
             case round =>
              clear H'; (try clear c1); (try clear c2); (try clear p2); (try clear c3); (try clear c3b0); (try clear c3b1); (try clear p3); (try clear q3); (try clear hx3); (try clear c4); (try clear c5); (try clear c5b0); (try clear p6); (try clear c7); (try clear c7b0); (try clear c7b1); (try clear c8); (try clear c8b0); (try clear c10); (try clear c19); (try clear c20); (try clear c21); (try clear c21b0); (try clear c22); (try clear c22b0); (try clear c23); (try clear c23b0); (try clear c25); (try clear c27); (try clear c31); (try clear c31b0); (try clear p31); (try clear q31); (try clear hx31); (try clear c32); (try clear c32b0); (try clear p32); (try clear q32); (try clear hx32); (try clear c33); (try clear c33b0); (try clear c34); (try clear c35); (try clear c36); (try clear c36b0); (try clear c37); (try clear c37b0); (try clear c38); (try clear c38b0); (try clear c38b1); (try clear c42); (try clear c42b0); (try clear c42b1); (try clear hx313_0); (try clear hx313_1); (try clear hx313_2); (try clear hx313_3); (try clear hx313_4); (try clear hx321_0); (try clear hx325_0); (try clear hx328_0); (try clear hx328_1); (try clear hx328_2); (try clear hx328_3); (try clear hx328_4); (try clear p313); (try clear p321); (try clear p325); (try clear p328); (try clear q313); (try clear q321); (try clear q325); (try clear q328); obtain ⟨x109_5, rfl, HA, HK5, HO_7, HO_8, HO_107, HB⟩ := hrel
              cases gk with
              | zero => exact absurd HA.out (by simp [posternref04_Check.l3])
              | succ k5 =>
               have H := HA.out; clear HA; simp only [posternref04_Check.l3] at H
               by_cases c48 : x109_5 < (t315.length : Int)
               ·
                rw [if_pos c48] at H
                have c48b0 := decide_eq_true c48; clear c48
                by_cases c49 : 0 ≤ x109_5
                ·
                 rw [if_pos c49] at H
                 have c49b0 := decide_eq_true c49; clear c49
                 by_cases c50 : x109_5 < (t315.length : Int)
                 ·
                  rw [if_pos c50] at H
                  have c50b0 := decide_eq_true c50; clear c50; have HC51 := Aside0.mk H; clear H; have p331 : 0 ≤ (x109_5 : Int) := of_decide_eq_true as_; have q331 : x109_5 < (t315.length : Int) := of_decide_eq_true as_; obtain ⟨ad331, e331, hx331_0⟩ := Kd.at_int (Kd.R_reads' HO_107.out).2.2 x109_5 p331 q331
                  cases e331
                  replace p331 := eq_true p331; replace q331 := eq_true q331; go_upto_region 29 with (fail)
                  go_cut [131] (fun v131 wc => ∃ (kq : Nat) (x131_50 : Bool), v131 = .bool x131_50 ∧ Aside0 (posternref04_Check.j5 kq l0 t315 t318 (rd t315 x109_5) t315 (t315.length : Int) x109_5 x131_50 = some (r1, r2)) ∧ Aside0 (kq ≤ k5) ∧ Aside0 (Kd.R (Kd.int .i64) 3 wc w.heap.size (fun k_ => some k_ ≠ (v319 : Value).ownBlock) (.slice (some ad331) t315.length co20) t315) ∧ Aside0 (Kd.R (Kd.int .i64) 3 wc w.heap.size (fun k_ => some k_ ≠ ((.slice (some ad331) t315.length co20) : Value).ownBlock ∧ some k_ ≠ ((.slice (some ad331) t315.length co20) : Value).ownBlock) v319 t318) ∧ Aside0 (Kd.R (Kd.int .i64) 3 wc w.heap.size (fun k_ => some k_ ≠ (v319 : Value).ownBlock) (.slice (some ad331) t315.length co20) t315) ∧ Aside0 (Below w.heap.size w wc))
                  case first =>
                   have H := HC51.out; clear HC51
                   by_cases c52 : (wrap64 (x109_5 + 1)) < (t315.length : Int)
                   ·
                    rw [if_pos c52] at H
                    have c52b0 := decide_eq_true c52; clear c52; (first | rw [c52b0] | (simp only [i64_w, i32_w]; rw [c52b0]) | skip); obtain ⟨ji53, hji53⟩ : ∃ j_ : Int, (wrap64 (x109_5 + 1)) = j_ := ⟨_, rfl⟩; (first | rw [hji53] at H | simp only [hji53] at H); (try rw [hji53] at c52b0); have hji53w : (IntKind.i64.wrap (x109_5 + 1)) = ji53 := (i64_w _).trans hji53
                    by_cases c54 : 0 ≤ (ji53)
                    ·
                     rw [if_pos c54] at H
                     have c54b0 := decide_eq_true c54; clear c54; replace H := bs_ H; obtain ⟨t333, A55, H⟩ := H; (try dsimp only at H); replace H := bs_ H; obtain ⟨t334, A56, H⟩ := H; (try dsimp only at H); have H' := Aside0.mk H; clear H; have p332 : 0 ≤ ((ji53) : Int) := of_decide_eq_true as_; have q332 : (ji53) < (t315.length : Int) := of_decide_eq_true as_; obtain ⟨ad332, e332, hx332_0⟩ := Kd.at_int (Kd.R_reads' HO_7.out).2.2 (ji53) p332 q332; obtain rfl : ad331 = ad332 := (by injection e332); replace p332 := eq_true p332; replace q332 := eq_true q332; obtain ⟨Ao57, co57, eo57⟩ := Kd.R_slice HO_8.out; subst eo57; go_wp2_with (first | (go_at_call 37; (with_reducible refine (posternref04_Of.calls k5 _ _ t318 (rd t315 (ji53)) t333 _ ?side1 ?side2 A55.out).mono ?_); (case side1 => exact cb_ (Kd.R_reads' HO_8.out).2.2); (case side2 => exact (Kd.R_reads' HO_8.out).2.1); rintro e w' ⟨rfl, ⟨nd, rfl⟩⟩) | (go_at_call 37; (with_reducible refine (posternref04_Of.calls k5 _ _ t318 (rd t315 x109_5) t334 _ ?side1 ?side2 A56.out).mono ?_); (case side1 => exact cb_ (Kd.R_reads' HO_8.out).2.2); (case side2 => exact (Kd.R_reads' HO_8.out).2.1); rintro e w' ⟨rfl, ⟨nd, rfl⟩⟩))
                     go_meet
                     case rel => exact ⟨_, ((t333 == t334)), eq_, H', ⟨by have := HJ1.out; have := HK2.out; have := HK3.out; have := HK4.out; have := HK5.out; first | omega | exact Nat.le_refl _⟩, ⟨mv_ HO_7.out⟩, ⟨mv_ HO_8.out⟩, ⟨mv_ HO_107.out⟩, ⟨bl_ HB.out⟩⟩
                    ·
                     rw [if_neg c54] at H
                     exact absurd H (by simp)
                   ·
                    rw [if_neg c52] at H
                    have c52b0 := decide_eq_false c52; clear c52; (first | rw [c52b0] | (simp only [i64_w, i32_w]; rw [c52b0]) | skip); have H' := Aside0.mk H; clear H; go_wp2; go_meet
                    case rel => exact ⟨_, (false), eq_, H', ⟨by have := HJ1.out; have := HK2.out; have := HK3.out; have := HK4.out; have := HK5.out; first | omega | exact Nat.le_refl _⟩, ⟨mv_ HO_7.out⟩, ⟨mv_ HO_8.out⟩, ⟨mv_ HO_107.out⟩, ⟨bl_ HB.out⟩⟩
                  case rest =>
                   clear HC51; (try clear c1); (try clear c2); (try clear p2); (try clear c3); (try clear c3b0); (try clear c3b1); (try clear p3); (try clear q3); (try clear hx3); (try clear c4); (try clear c5); (try clear c5b0); (try clear p6); (try clear c7); (try clear c7b0); (try clear c7b1); (try clear c8); (try clear c8b0); (try clear c10); (try clear c19); (try clear c20); (try clear c21); (try clear c21b0); (try clear c22); (try clear c22b0); (try clear c23); (try clear c23b0); (try clear c25); (try clear c27); (try clear c31); (try clear c31b0); (try clear p31); (try clear q31); (try clear hx31); (try clear c32); (try clear c32b0); (try clear p32); (try clear q32); (try clear hx32); (try clear c33); (try clear c33b0); (try clear p33); (try clear q33); (try clear hx33); (try clear c34); (try clear c35); (try clear c36); (try clear c36b0); (try clear c37); (try clear c37b0); (try clear c38); (try clear c38b0); (try clear c38b1); (try clear c42); (try clear c42b0); (try clear c42b1); (try clear c48); (try clear c48b0); (try clear c49); (try clear c49b0); (try clear c50); (try clear c50b0); (try clear c52); (try clear c52b0); (try clear c54); (try clear c54b0); (try clear hx313_0); (try clear hx313_1); (try clear hx313_2); (try clear hx313_3); (try clear hx313_4); (try clear hx321_0); (try clear hx325_0); (try clear hx328_0); (try clear hx328_1); (try clear hx328_2); (try clear hx328_3); (try clear hx328_4); (try clear hx331_0); (try clear hx332_0); (try clear p313); (try clear p321); (try clear p325); (try clear p328); (try clear p331); (try clear p332); (try clear q313); (try clear q321); (try clear q325); (try clear q328); (try clear q331); (try clear q332); obtain ⟨kq, x131_50, rfl, HA, HJ50, HO_7, HO_8, HO_107, HB⟩ := hcut
                   cases kq with
                   | zero => exact absurd HA.out (by simp [posternref04_Check.j5])
                   | succ kj50 =>
                    have H := HA.out; clear HA; simp only [posternref04_Check.j5] at H
                    by_cases c58 : x131_50 = true
                    ·
                     subst c58
                     rw [if_pos rfl] at H; have H' := Aside0.mk H; clear H; go_wp2; go_roundg kj50
                     case measure => have := HJ1.out; have := HK2.out; have := HK3.out; have := HK4.out; have := HK5.out; have := HJ50.out; omega
                     case rel => exact ⟨(wrap64 (x109_5 + 1)), eq_, H', ⟨by have := HJ1.out; have := HK2.out; have := HK3.out; have := HK4.out; have := HK5.out; have := HJ50.out; omega⟩, ⟨mv_ HO_7.out⟩, ⟨mv_ HO_8.out⟩, ⟨mv_ HO_107.out⟩, ⟨bl_ HB.out⟩⟩
                    ·
                     replace c58 := Bool.eq_false_iff.mpr c58
                     subst c58; rw [if_neg (show ¬ (false = true) by decide)] at H
                     by_cases c59 : 0 ≤ (rd t315 x109_5)
                     ·
                      rw [if_pos c59] at H
                      have c59b0 := decide_eq_true c59; clear c59
                      by_cases c60 : (rd t315 x109_5) < (l0.length : Int)
                      ·
                       rw [if_pos c60] at H
                       have c60b0 := decide_eq_true c60; clear c60
                       by_cases c61 : ((rd_T43 l0 (rd t315 x109_5)).f0) = 149
                       ·
                        rw [if_pos c61] at H
                        have ⟨c61b0, c61b1⟩ := eqb_ c61; clear c61; have H' := Aside0.mk H; clear H; have p335 : 0 ≤ ((rd t315 x109_5) : Int) := of_decide_eq_true as_; have q335 : (rd t315 x109_5) < (l0.length : Int) := of_decide_eq_true as_; obtain ⟨ad335, e335, hx335_0, hx335_1, hx335_2, hx335_3, hx335_4⟩ := at_T43 (Kd.C_below HR0.out HB.out) (rd t315 x109_5) p335 q335
                        cases e335
                        replace p335 := eq_true p335; replace q335 := eq_true q335; go_wp2; go_roundg kj50
                        case measure => have := HJ1.out; have := HK2.out; have := HK3.out; have := HK4.out; have := HK5.out; have := HJ50.out; omega
                        case rel => exact ⟨(wrap64 (x109_5 + 1)), eq_, H', ⟨by have := HJ1.out; have := HK2.out; have := HK3.out; have := HK4.out; have := HK5.out; have := HJ50.out; omega⟩, ⟨mv_ HO_7.out⟩, ⟨mv_ HO_8.out⟩, ⟨mv_ HO_107.out⟩, ⟨bl_ HB.out⟩⟩
                       ·
                        rw [if_neg c61] at H
                        have ⟨c61b0, c61b1⟩ := nqb_ c61
                        by_cases c62 : ((rd_T43 l0 (rd t315 x109_5)).f0) = 5
                        ·
                         rw [if_pos c62] at H
                         have ⟨c62b0, c62b1⟩ := eqb_ c62; clear c62; have H' := Aside0.mk H; clear H; have p335 : 0 ≤ ((rd t315 x109_5) : Int) := of_decide_eq_true as_; have q335 : (rd t315 x109_5) < (l0.length : Int) := of_decide_eq_true as_; obtain ⟨ad335, e335, hx335_0, hx335_1, hx335_2, hx335_3, hx335_4⟩ := at_T43 (Kd.C_below HR0.out HB.out) (rd t315 x109_5) p335 q335
                         cases e335
                         replace p335 := eq_true p335; replace q335 := eq_true q335; have p336 : 0 ≤ ((rd t315 x109_5) : Int) := of_decide_eq_true as_; have q336 : (rd t315 x109_5) < (l0.length : Int) := of_decide_eq_true as_; obtain ⟨ad336, e336, hx336_0, hx336_1, hx336_2, hx336_3, hx336_4⟩ := at_T43 HR0.out (rd t315 x109_5) p336 q336; obtain rfl : ad335 = ad336 := (by injection e336); replace hx336_0 := (HB.out.cell (World.block_lt_of_cell? w _ hx336_0)).trans hx336_0; replace hx336_1 := (HB.out.cell (World.block_lt_of_cell? w _ hx336_1)).trans hx336_1; replace hx336_2 := (HB.out.cell (World.block_lt_of_cell? w _ hx336_2)).trans hx336_2; replace hx336_3 := (HB.out.cell (World.block_lt_of_cell? w _ hx336_3)).trans hx336_3; replace hx336_4 := (HB.out.cell (World.block_lt_of_cell? w _ hx336_4)).trans hx336_4; replace p336 := eq_true p336; replace q336 := eq_true q336; go_wp2; go_roundg kj50
                         case measure => have := HJ1.out; have := HK2.out; have := HK3.out; have := HK4.out; have := HK5.out; have := HJ50.out; omega
                         case rel => exact ⟨(wrap64 (x109_5 + 1)), eq_, H', ⟨by have := HJ1.out; have := HK2.out; have := HK3.out; have := HK4.out; have := HK5.out; have := HJ50.out; omega⟩, ⟨mv_ HO_7.out⟩, ⟨mv_ HO_8.out⟩, ⟨mv_ HO_107.out⟩, ⟨bl_ HB.out⟩⟩
                        ·
                         rw [if_neg c62] at H
                         have ⟨c62b0, c62b1⟩ := nqb_ c62; simp only [Option.some.injEq, Prod.mk.injEq] at H; obtain ⟨rfl, rfl⟩ := H; have p335 : 0 ≤ ((rd t315 x109_5) : Int) := of_decide_eq_true as_; have q335 : (rd t315 x109_5) < (l0.length : Int) := of_decide_eq_true as_; obtain ⟨ad335, e335, hx335_0, hx335_1, hx335_2, hx335_3, hx335_4⟩ := at_T43 (Kd.C_below HR0.out HB.out) (rd t315 x109_5) p335 q335
                         cases e335
                         replace p335 := eq_true p335; replace q335 := eq_true q335; have p336 : 0 ≤ ((rd t315 x109_5) : Int) := of_decide_eq_true as_; have q336 : (rd t315 x109_5) < (l0.length : Int) := of_decide_eq_true as_; obtain ⟨ad336, e336, hx336_0, hx336_1, hx336_2, hx336_3, hx336_4⟩ := at_T43 HR0.out (rd t315 x109_5) p336 q336; obtain rfl : ad335 = ad336 := (by injection e336); replace hx336_0 := (HB.out.cell (World.block_lt_of_cell? w _ hx336_0)).trans hx336_0; replace hx336_1 := (HB.out.cell (World.block_lt_of_cell? w _ hx336_1)).trans hx336_1; replace hx336_2 := (HB.out.cell (World.block_lt_of_cell? w _ hx336_2)).trans hx336_2; replace hx336_3 := (HB.out.cell (World.block_lt_of_cell? w _ hx336_3)).trans hx336_3; replace hx336_4 := (HB.out.cell (World.block_lt_of_cell? w _ hx336_4)).trans hx336_4; replace p336 := eq_true p336; replace q336 := eq_true q336; go_wp2; go_ret2
                         exact ⟨rr_, bl_ HB.out⟩
                      ·
                       rw [if_neg c60] at H
                       exact absurd H (by simp)
                     ·
                      rw [if_neg c59] at H
                      exact absurd H (by simp)
                 ·
                  rw [if_neg c50] at H
                  exact absurd H (by simp)
                ·
                 rw [if_neg c49] at H
                 exact absurd H (by simp)
               ·
                rw [if_neg c48] at H
                have c48b0 := decide_eq_false c48; clear c48; simp only [Option.some.injEq, Prod.mk.injEq] at H; obtain ⟨rfl, rfl⟩ := H; go_wp2; go_ret2
                exact ⟨rr_, bl_ HB.out⟩

end Go.Proofs.Ytmijlibnembkaaa.PA
