-- Printed by wip/tools/extprint.py over the kit's printer, with contracts of this session's own. Lean checks it.
import Derived.Test.YtmijlibnembkaaaMkPAx0
namespace Go.Proofs.Ytmijlibnembkaaa.PA
open Go.RowKit Go.Proofs.YtmijlibnembkaaaW.PrintWords Go.Proofs.YtmijlibnembkaaaW.PrintLast Go.Proofs.YtmijlibnembkaaaW.PrintMore
attribute [local go_sem] max2_int min2_int max_two min_two max_three min_three max_four min_four   -- for this text's walks alone
set_option linter.unusedVariables false
set_option maxHeartbeats 8000000
set_option maxRecDepth 100000
set_option linter.unusedSimpArgs false

/-! ### posternref02_Known: function 55 -/
mutual
def posternref02_Known.j0 : Nat → Int → Int → Bool → Option (Bool)
 | 0, _, _, _ => none
 | k + 1, x0, x6, x11 => if x11 = true then (if (wrap64 (Int.tdiv x0 8)) = 12 then (some true) else (if (wrap64 (Int.tdiv x0 8)) = 13 then (some true) else (if (wrap64 (Int.tdiv x0 8)) = 14 then (some true) else (some ((wrap64 (Int.tdiv x0 8)) == 15))))) else (if x6 = 4 then (posternref02_Known.j1 k x0 (x6 == 4)) else (posternref02_Known.j1 k x0 (x6 == 7)))
def posternref02_Known.j1 : Nat → Int → Bool → Option (Bool)
 | 0, _, _ => none
 | k + 1, x0, x33 => if x33 = true then (if (wrap64 (Int.tdiv x0 16)) ≤ 12 then (if (wrap64 (Int.tdiv x0 16)) = 8 then (some ((Int.tmod (wrap64 (Int.tdiv x0 8)) 2) == 0)) else (some true)) else (some false)) else (if (wrap64 (Int.tdiv x0 16)) ≥ 1 then (if (wrap64 (Int.tdiv x0 16)) ≤ 7 then (some true) else (if (wrap64 (Int.tdiv x0 16)) ≥ 10 then (if (wrap64 (Int.tdiv x0 16)) ≤ 13 then (some true) else (if x0 = 5 then (some true) else (if x0 = 133 then (some true) else (some (x0 == 149))))) else (if x0 = 5 then (some true) else (if x0 = 133 then (some true) else (some (x0 == 149)))))) else (if (wrap64 (Int.tdiv x0 16)) ≥ 10 then (if (wrap64 (Int.tdiv x0 16)) ≤ 13 then (some true) else (if x0 = 5 then (some true) else (if x0 = 133 then (some true) else (some (x0 == 149))))) else (if x0 = 5 then (some true) else (if x0 = 133 then (some true) else (some (x0 == 149))))))
end
def posternref02_Known.f (k : Nat) (a0 : Int) : Option (Bool) := if (Int.tmod a0 8) = 0 then (some (a0 == 24)) else (if (Int.tmod a0 8) = 1 then (posternref02_Known.j0 k a0 (Int.tmod a0 8) ((Int.tmod a0 8) == 1)) else (if (Int.tmod a0 8) = 2 then (posternref02_Known.j0 k a0 (Int.tmod a0 8) ((Int.tmod a0 8) == 2)) else (posternref02_Known.j0 k a0 (Int.tmod a0 8) ((Int.tmod a0 8) == 3))))
theorem posternref02_Known.mono_l : ∀ k, (∀ y0 y1 y2, LeO (posternref02_Known.j0 k y0 y1 y2) (posternref02_Known.j0 (k + 1) y0 y1 y2)) ∧ (∀ y0 y1, LeO (posternref02_Known.j1 k y0 y1) (posternref02_Known.j1 (k + 1) y0 y1))
 | 0 => by refine ⟨?_, ?_⟩ <;> (intros; intro r h; simp [posternref02_Known.j0, posternref02_Known.j1] at h)
 | k + 1 => by
  obtain ⟨ih0, ih1⟩ := posternref02_Known.mono_l k; refine ⟨?_, ?_⟩
  all_goals intros
  all_goals (first | unfold posternref02_Known.j0 | unfold posternref02_Known.j1)
  all_goals repeat' (with_reducible first | apply ih0 | apply ih1 | exact LeO.refl _ | exact LeO.none _ | refine LeO.ite ?_ ?_ | refine LeO.bind ?_ (fun _ => ?_))
theorem posternref02_Known.mono : ∀ a0 k, LeO (posternref02_Known.f k a0) (posternref02_Known.f (k + 1) a0) := by
 intro a0 k; obtain ⟨ih0, ih1⟩ := posternref02_Known.mono_l k
 unfold posternref02_Known.f
 repeat' (with_reducible first | apply ih0 | apply ih1 | exact LeO.refl _ | exact LeO.none _ | refine LeO.ite ?_ ?_ | refine LeO.bind ?_ (fun _ => ?_))
theorem posternref02_Known.calls (k : Nat) (a0 : Int) (r : Bool) (w : World) (h : posternref02_Known.f k a0 = some r) :
  Calls Try.prog 55 #[.int .i64 a0] w fun e w' => e = .returned (.bool r) ∧ Drawn0 w w' := by
 have H : (if (Int.tmod a0 8) = 0 then (some (a0 == 24)) else (if (Int.tmod a0 8) = 1 then (posternref02_Known.j0 k a0 (Int.tmod a0 8) ((Int.tmod a0 8) == 1)) else (if (Int.tmod a0 8) = 2 then (posternref02_Known.j0 k a0 (Int.tmod a0 8) ((Int.tmod a0 8) == 2)) else (posternref02_Known.j0 k a0 (Int.tmod a0 8) ((Int.tmod a0 8) == 3))))) = some r := h; clear h
 by_cases c2 : (Int.tmod a0 8) = 0
 ·
  rw [if_pos c2] at H
  have ⟨c2b0, c2b1⟩ := eqb_ c2; clear c2; obtain rfl := Option.some.inj H; go_enter Try.func55, Try.ntmps55
  go_wp2; go_ret
  exact ⟨by first | rfl | (simp; done) | (simp [*]; done), dr_⟩
 ·
  rw [if_neg c2] at H
  have ⟨c2b0, c2b1⟩ := nqb_ c2; have HC3 := Aside0.mk H; clear H; go_enter Try.func55, Try.ntmps55
  go_upto_if 11 with (fail)
  go_cut [11] (fun v11 wc => ∃ (kq : Nat) (x11_2 : Bool), v11 = .bool x11_2 ∧ Aside0 (posternref02_Known.j0 kq a0 (Int.tmod a0 8) x11_2 = some r) ∧ Aside0 (kq ≤ k) ∧ Drawn0 w wc)
  case first =>
   have H := HC3.out; clear HC3
   by_cases c4 : (Int.tmod a0 8) = 1
   ·
    rw [if_pos c4] at H
    have ⟨c4b0, c4b1⟩ := eqb_ c4; clear c4; (first | rw [c4b0] | (simp only [i64_w, i32_w]; rw [c4b0]) | skip); have H' := Aside0.mk H; clear H; go_wp2; go_meet
    case rel => exact ⟨_, (((Int.tmod a0 8) == 1)), eq_, H', ⟨by first | omega | exact Nat.le_refl _⟩, dr_⟩
   ·
    rw [if_neg c4] at H
    have ⟨c4b0, c4b1⟩ := nqb_ c4; (first | rw [c4b0] | (simp only [i64_w, i32_w]; rw [c4b0]) | skip)
    by_cases c5 : (Int.tmod a0 8) = 2
    ·
     rw [if_pos c5] at H
     have ⟨c5b0, c5b1⟩ := eqb_ c5; clear c5; have H' := Aside0.mk H; clear H; go_wp2; go_meet
     case rel => exact ⟨_, (((Int.tmod a0 8) == 2)), eq_, H', ⟨by first | omega | exact Nat.le_refl _⟩, dr_⟩
    ·
     rw [if_neg c5] at H
     have ⟨c5b0, c5b1⟩ := nqb_ c5; have H' := Aside0.mk H; clear H; go_wp2; go_meet
     case rel => exact ⟨_, (((Int.tmod a0 8) == 3)), eq_, H', ⟨by first | omega | exact Nat.le_refl _⟩, dr_⟩
  case rest =>
   clear HC3 c2 c2b0 c2b1; obtain ⟨kq, x11_2, rfl, HA, HJ2, ⟨mc2, rfl⟩⟩ := hcut
   cases kq with
   | zero => exact absurd HA.out (by simp [posternref02_Known.j0])
   | succ kj2 =>
    have H := HA.out; clear HA; simp only [posternref02_Known.j0] at H
    by_cases c6 : x11_2 = true
    ·
     subst c6
     rw [if_pos rfl] at H
     by_cases c7 : (wrap64 (Int.tdiv a0 8)) = 12
     ·
      rw [if_pos c7] at H
      have ⟨c7b0, c7b1⟩ := eqb_ c7; clear c7; obtain rfl := Option.some.inj H; go_wp2; go_ret
      exact ⟨by first | rfl | (simp; done) | (simp [*]; done), dr_⟩
     ·
      rw [if_neg c7] at H
      have ⟨c7b0, c7b1⟩ := nqb_ c7
      by_cases c8 : (wrap64 (Int.tdiv a0 8)) = 13
      ·
       rw [if_pos c8] at H
       have ⟨c8b0, c8b1⟩ := eqb_ c8; clear c8; obtain rfl := Option.some.inj H; go_wp2; go_ret
       exact ⟨by first | rfl | (simp; done) | (simp [*]; done), dr_⟩
      ·
       rw [if_neg c8] at H
       have ⟨c8b0, c8b1⟩ := nqb_ c8
       by_cases c9 : (wrap64 (Int.tdiv a0 8)) = 14
       ·
        rw [if_pos c9] at H
        have ⟨c9b0, c9b1⟩ := eqb_ c9; clear c9; obtain rfl := Option.some.inj H; go_wp2; go_ret
        exact ⟨by first | rfl | (simp; done) | (simp [*]; done), dr_⟩
       ·
        rw [if_neg c9] at H
        have ⟨c9b0, c9b1⟩ := nqb_ c9; obtain rfl := Option.some.inj H; go_wp2; go_ret
        exact ⟨by first | rfl | (simp; done) | (simp [*]; done), dr_⟩
    ·
     replace c6 := Bool.eq_false_iff.mpr c6
     subst c6; rw [if_neg (show ¬ (false = true) by decide)] at H; have HC10 := Aside0.mk H; clear H; go_upto_if 33 with (fail)
     go_cut [33] (fun v33 wc => ∃ (kq : Nat) (x33_9 : Bool), v33 = .bool x33_9 ∧ Aside0 (posternref02_Known.j1 kq a0 x33_9 = some r) ∧ Aside0 (kq ≤ kj2) ∧ Drawn0 w wc)
     case first =>
      have H := HC10.out; clear HC10
      by_cases c11 : (Int.tmod a0 8) = 4
      ·
       rw [if_pos c11] at H
       have ⟨c11b0, c11b1⟩ := eqb_ c11; clear c11; (first | rw [c11b0] | (simp only [i64_w, i32_w]; rw [c11b0]) | skip); have H' := Aside0.mk H; clear H; go_wp2; go_meet
       case rel => exact ⟨_, (((Int.tmod a0 8) == 4)), eq_, H', ⟨by have := HJ2.out; first | omega | exact Nat.le_refl _⟩, dr_⟩
      ·
       rw [if_neg c11] at H
       have ⟨c11b0, c11b1⟩ := nqb_ c11; (first | rw [c11b0] | (simp only [i64_w, i32_w]; rw [c11b0]) | skip); have H' := Aside0.mk H; clear H; go_wp2; go_meet
       case rel => exact ⟨_, (((Int.tmod a0 8) == 7)), eq_, H', ⟨by have := HJ2.out; first | omega | exact Nat.le_refl _⟩, dr_⟩
     case rest =>
      clear HC10; obtain ⟨kq, x33_9, rfl, HA, HJ9, ⟨mc9, rfl⟩⟩ := hcut
      cases kq with
      | zero => exact absurd HA.out (by simp [posternref02_Known.j1])
      | succ kj9 =>
       have H := HA.out; clear HA; simp only [posternref02_Known.j1] at H
       by_cases c12 : x33_9 = true
       ·
        subst c12
        rw [if_pos rfl] at H
        by_cases c13 : (wrap64 (Int.tdiv a0 16)) ≤ 12
        ·
         rw [if_pos c13] at H
         have c13b0 := decide_eq_true c13; clear c13
         by_cases c14 : (wrap64 (Int.tdiv a0 16)) = 8
         ·
          rw [if_pos c14] at H
          have ⟨c14b0, c14b1⟩ := eqb_ c14; clear c14; obtain rfl := Option.some.inj H; go_wp2; go_ret
          exact ⟨by first | rfl | (simp; done) | (simp [*]; done), dr_⟩
         ·
          rw [if_neg c14] at H
          have ⟨c14b0, c14b1⟩ := nqb_ c14; obtain rfl := Option.some.inj H; go_wp2; go_ret
          exact ⟨by first | rfl | (simp; done) | (simp [*]; done), dr_⟩
        ·
         rw [if_neg c13] at H
         have c13b0 := decide_eq_false c13; clear c13; obtain rfl := Option.some.inj H; go_wp2; go_ret
         exact ⟨by first | rfl | (simp; done) | (simp [*]; done), dr_⟩
       ·
        replace c12 := Bool.eq_false_iff.mpr c12
        subst c12; rw [if_neg (show ¬ (false = true) by decide)] at H
        by_cases c15 : (wrap64 (Int.tdiv a0 16)) ≥ 1
        ·
         rw [if_pos c15] at H
         have c15b0 := decide_eq_true c15; clear c15
         by_cases c16 : (wrap64 (Int.tdiv a0 16)) ≤ 7
         ·
          rw [if_pos c16] at H
          have c16b0 := decide_eq_true c16; clear c16; obtain rfl := Option.some.inj H; go_wp2; go_ret
          exact ⟨by first | rfl | (simp; done) | (simp [*]; done), dr_⟩
         ·
          rw [if_neg c16] at H
          have c16b0 := decide_eq_false c16; clear c16
          by_cases c17 : (wrap64 (Int.tdiv a0 16)) ≥ 10
          ·
           rw [if_pos c17] at H
           have c17b0 := decide_eq_true c17; clear c17
           by_cases c18 : (wrap64 (Int.tdiv a0 16)) ≤ 13
           ·
            rw [if_pos c18] at H
            have c18b0 := decide_eq_true c18; clear c18; obtain rfl := Option.some.inj H; go_wp2; go_ret
            exact ⟨by first | rfl | (simp; done) | (simp [*]; done), dr_⟩
           ·
            rw [if_neg c18] at H
            have c18b0 := decide_eq_false c18; clear c18
            by_cases c19 : a0 = 5
            ·
             rw [if_pos c19] at H
             have ⟨c19b0, c19b1⟩ := eqb_ c19; clear c19; obtain rfl := Option.some.inj H; go_wp2; go_ret
             exact ⟨by first | rfl | (simp; done) | (simp [*]; done), dr_⟩
            ·
             rw [if_neg c19] at H
             have ⟨c19b0, c19b1⟩ := nqb_ c19
             by_cases c20 : a0 = 133
             ·
              rw [if_pos c20] at H
              have ⟨c20b0, c20b1⟩ := eqb_ c20; clear c20; obtain rfl := Option.some.inj H; go_wp2; go_ret
              exact ⟨by first | rfl | (simp; done) | (simp [*]; done), dr_⟩
             ·
              rw [if_neg c20] at H
              have ⟨c20b0, c20b1⟩ := nqb_ c20; obtain rfl := Option.some.inj H; go_wp2; go_ret
              exact ⟨by first | rfl | (simp; done) | (simp [*]; done), dr_⟩
          ·
           rw [if_neg c17] at H
           have c17b0 := decide_eq_false c17; clear c17
           by_cases c21 : a0 = 5
           ·
            rw [if_pos c21] at H
            have ⟨c21b0, c21b1⟩ := eqb_ c21; clear c21; obtain rfl := Option.some.inj H; go_wp2; go_ret
            exact ⟨by first | rfl | (simp; done) | (simp [*]; done), dr_⟩
           ·
            rw [if_neg c21] at H
            have ⟨c21b0, c21b1⟩ := nqb_ c21
            by_cases c22 : a0 = 133
            ·
             rw [if_pos c22] at H
             have ⟨c22b0, c22b1⟩ := eqb_ c22; clear c22; obtain rfl := Option.some.inj H; go_wp2; go_ret
             exact ⟨by first | rfl | (simp; done) | (simp [*]; done), dr_⟩
            ·
             rw [if_neg c22] at H
             have ⟨c22b0, c22b1⟩ := nqb_ c22; obtain rfl := Option.some.inj H; go_wp2; go_ret
             exact ⟨by first | rfl | (simp; done) | (simp [*]; done), dr_⟩
        ·
         rw [if_neg c15] at H
         have c15b0 := decide_eq_false c15; clear c15
         by_cases c23 : (wrap64 (Int.tdiv a0 16)) ≥ 10
         ·
          rw [if_pos c23] at H
          have c23b0 := decide_eq_true c23; clear c23
          by_cases c24 : (wrap64 (Int.tdiv a0 16)) ≤ 13
          ·
           rw [if_pos c24] at H
           have c24b0 := decide_eq_true c24; clear c24; obtain rfl := Option.some.inj H; go_wp2; go_ret
           exact ⟨by first | rfl | (simp; done) | (simp [*]; done), dr_⟩
          ·
           rw [if_neg c24] at H
           have c24b0 := decide_eq_false c24; clear c24
           by_cases c25 : a0 = 5
           ·
            rw [if_pos c25] at H
            have ⟨c25b0, c25b1⟩ := eqb_ c25; clear c25; obtain rfl := Option.some.inj H; go_wp2; go_ret
            exact ⟨by first | rfl | (simp; done) | (simp [*]; done), dr_⟩
           ·
            rw [if_neg c25] at H
            have ⟨c25b0, c25b1⟩ := nqb_ c25
            by_cases c26 : a0 = 133
            ·
             rw [if_pos c26] at H
             have ⟨c26b0, c26b1⟩ := eqb_ c26; clear c26; obtain rfl := Option.some.inj H; go_wp2; go_ret
             exact ⟨by first | rfl | (simp; done) | (simp [*]; done), dr_⟩
            ·
             rw [if_neg c26] at H
             have ⟨c26b0, c26b1⟩ := nqb_ c26; obtain rfl := Option.some.inj H; go_wp2; go_ret
             exact ⟨by first | rfl | (simp; done) | (simp [*]; done), dr_⟩
         ·
          rw [if_neg c23] at H
          have c23b0 := decide_eq_false c23; clear c23
          by_cases c27 : a0 = 5
          ·
           rw [if_pos c27] at H
           have ⟨c27b0, c27b1⟩ := eqb_ c27; clear c27; obtain rfl := Option.some.inj H; go_wp2; go_ret
           exact ⟨by first | rfl | (simp; done) | (simp [*]; done), dr_⟩
          ·
           rw [if_neg c27] at H
           have ⟨c27b0, c27b1⟩ := nqb_ c27
           by_cases c28 : a0 = 133
           ·
            rw [if_pos c28] at H
            have ⟨c28b0, c28b1⟩ := eqb_ c28; clear c28; obtain rfl := Option.some.inj H; go_wp2; go_ret
            exact ⟨by first | rfl | (simp; done) | (simp [*]; done), dr_⟩
           ·
            rw [if_neg c28] at H
            have ⟨c28b0, c28b1⟩ := nqb_ c28; obtain rfl := Option.some.inj H; go_wp2; go_ret
            exact ⟨by first | rfl | (simp; done) | (simp [*]; done), dr_⟩

/-! ### posternref02_Uses: function 56 -/
mutual
def posternref02_Uses.j0 : Nat → Int → Bool → Int → Bool → Option (Bool × Bool × Bool × Bool)
 | 0, _, _, _, _ => none
 | k + 1, x0, x3, x9, x13 => if x13 = true then (some (true, true, true, false)) else (if x9 = 2 then (some (true, false, true, true)) else (if x9 = 4 then (posternref02_Uses.j1 k x0 x3 (x9 == 4)) else (posternref02_Uses.j1 k x0 x3 (x9 == 7))))
def posternref02_Uses.j1 : Nat → Int → Bool → Bool → Option (Bool × Bool × Bool × Bool)
 | 0, _, _, _ => none
 | k + 1, x0, x3, x20 => if x20 = true then (if (wrap64 (Int.tdiv x0 16)) = 8 then (some (true, false, false, false)) else (some (true, x3, false, !x3))) else (if x0 = 5 then (some (false, false, true, false)) else (if x0 = 133 then (some (false, true, false, true)) else (if x0 = 149 then (some (false, false, false, false)) else (some (true, x3, true, !x3)))))
end
def posternref02_Uses.f (k : Nat) (a0 : Int) : Option (Bool × Bool × Bool × Bool) := if (Int.tmod a0 8) = 0 then (some (true, true, false, true)) else (if (Int.tmod a0 8) = 1 then (posternref02_Uses.j0 k a0 ((Int.tmod (wrap64 (Int.tdiv a0 8)) 2) == 1) (Int.tmod a0 8) ((Int.tmod a0 8) == 1)) else (posternref02_Uses.j0 k a0 ((Int.tmod (wrap64 (Int.tdiv a0 8)) 2) == 1) (Int.tmod a0 8) ((Int.tmod a0 8) == 3)))
theorem posternref02_Uses.mono_l : ∀ k, (∀ y0 y1 y2 y3, LeO (posternref02_Uses.j0 k y0 y1 y2 y3) (posternref02_Uses.j0 (k + 1) y0 y1 y2 y3)) ∧ (∀ y0 y1 y2, LeO (posternref02_Uses.j1 k y0 y1 y2) (posternref02_Uses.j1 (k + 1) y0 y1 y2))
 | 0 => by refine ⟨?_, ?_⟩ <;> (intros; intro r h; simp [posternref02_Uses.j0, posternref02_Uses.j1] at h)
 | k + 1 => by
  obtain ⟨ih0, ih1⟩ := posternref02_Uses.mono_l k; refine ⟨?_, ?_⟩
  all_goals intros
  all_goals (first | unfold posternref02_Uses.j0 | unfold posternref02_Uses.j1)
  all_goals repeat' (with_reducible first | apply ih0 | apply ih1 | exact LeO.refl _ | exact LeO.none _ | refine LeO.ite ?_ ?_ | refine LeO.bind ?_ (fun _ => ?_))
theorem posternref02_Uses.mono : ∀ a0 k, LeO (posternref02_Uses.f k a0) (posternref02_Uses.f (k + 1) a0) := by
 intro a0 k; obtain ⟨ih0, ih1⟩ := posternref02_Uses.mono_l k
 unfold posternref02_Uses.f
 repeat' (with_reducible first | apply ih0 | apply ih1 | exact LeO.refl _ | exact LeO.none _ | refine LeO.ite ?_ ?_ | refine LeO.bind ?_ (fun _ => ?_))
theorem posternref02_Uses.calls (k : Nat) (a0 : Int) (r1 : Bool) (r2 : Bool) (r3 : Bool) (r4 : Bool) (w : World) (h : posternref02_Uses.f k a0 = some (r1, r2, r3, r4)) :
  Calls Try.prog 56 #[.int .i64 a0] w fun e w' => e = .returned (.agg #[.bool r1, .bool r2, .bool r3, .bool r4]) ∧ Below w.heap.size w w' := by
 have hu94 := Try.underlying94; have HB := Aside0.mk (Below.refl w.heap.size w); have H : (if (Int.tmod a0 8) = 0 then (some (true, true, false, true)) else (if (Int.tmod a0 8) = 1 then (posternref02_Uses.j0 k a0 ((Int.tmod (wrap64 (Int.tdiv a0 8)) 2) == 1) (Int.tmod a0 8) ((Int.tmod a0 8) == 1)) else (posternref02_Uses.j0 k a0 ((Int.tmod (wrap64 (Int.tdiv a0 8)) 2) == 1) (Int.tmod a0 8) ((Int.tmod a0 8) == 3)))) = some (r1, r2, r3, r4) := h; clear h
 by_cases c2 : (Int.tmod a0 8) = 0
 ·
  rw [if_pos c2] at H
  have ⟨c2b0, c2b1⟩ := eqb_ c2; clear c2; simp only [Option.some.injEq, Prod.mk.injEq] at H; obtain ⟨rfl, rfl, rfl, rfl⟩ := H; go_enter Try.func56, Try.ntmps56
  go_wp2_with (first | ((with_reducible refine gate_dst (N := 2) rfl ?_); refine box_event ?hg (N := 2) ?hd (cs := #[.bool false, .bool false, .bool false, .bool false]) (t := 94) ?hr ?_; (case hd => rfl); (case hg => rfl); (case hr => first | (go_simp; done) | (go_simp; rfl)); intro gb280 hg w3 hbox hb; have n_ : _ ∧ _ ∧ _ ∧ _ := ⟨k_ (below_step (bl_ HB.out) hb), k_ (hbox), k_ ((by rw [hg]; exact (below_size (bl_ HB.out)) : w.heap.size ≤ gb280)), k_ ((by rw [hg]; exact (below_size (bl_ HB.out)) : w.heap.size ≤ gb280))⟩; clear HB; obtain ⟨HB, BK280, GW280, GE280⟩ := n_; clear hb hbox hg; obtain ⟨⟨hcz4_0, hcz4_1, hcz4_2, hcz4_3⟩, hfz4_0, hfz4_1, hfz4_2, hfz4_3⟩ := blk4_ BK280.out))
  refine bodyPost_ret (results_cell_row rfl _ _ gb280 94 #[.bool true, .bool true, .bool false, .bool true] (0, 0) _ rfl (bz0_ BK280.out) Try.underlying94 rfl (by kernel_rfl)) rfl ?_; exact ⟨rr_, bm_ HB.out GE280.out⟩
 ·
  rw [if_neg c2] at H
  have ⟨c2b0, c2b1⟩ := nqb_ c2; have HC5 := Aside0.mk H; clear H; go_enter Try.func56, Try.ntmps56
  go_upto_if 13 with (first | ((with_reducible refine gate_dst (N := 2) rfl ?_); refine box_event ?hg (N := 2) ?hd (cs := #[.bool false, .bool false, .bool false, .bool false]) (t := 94) ?hr ?_; (case hd => rfl); (case hg => rfl); (case hr => first | (go_simp; done) | (go_simp; rfl)); intro gb280 hg w6 hbox hb; have n_ : _ ∧ _ ∧ _ ∧ _ := ⟨k_ (below_step (bl_ HB.out) hb), k_ (hbox), k_ ((by rw [hg]; exact (below_size (bl_ HB.out)) : w.heap.size ≤ gb280)), k_ ((by rw [hg]; exact (below_size (bl_ HB.out)) : w.heap.size ≤ gb280))⟩; clear HB; obtain ⟨HB, BK280, GW280, GE280⟩ := n_; clear hb hbox hg))
  (try simp only [Act.put, List.setIfInBounds_toArray, List.set_cons_zero, List.set_cons_succ]); go_cut [13] (fun v13 wc => ∃ (kq : Nat) (x13_4 : Bool), v13 = .bool x13_4 ∧ Aside0 (posternref02_Uses.j0 kq a0 ((Int.tmod (wrap64 (Int.tdiv a0 8)) 2) == 1) (Int.tmod a0 8) x13_4 = some (r1, r2, r3, r4)) ∧ Aside0 (kq ≤ k) ∧ Aside0 (wc.heap[gb280]? = some (.cells #[.bool false, .bool false, .bool false, .bool false] 94 (0, 0))) ∧ Aside0 (Below w.heap.size w wc))
  case first =>
   have H := HC5.out; clear HC5
   by_cases c7 : (Int.tmod a0 8) = 1
   ·
    rw [if_pos c7] at H
    have ⟨c7b0, c7b1⟩ := eqb_ c7; clear c7; (first | rw [c7b0] | (simp only [i64_w, i32_w]; rw [c7b0]) | skip); have H' := Aside0.mk H; clear H; go_wp2; go_meet
    case rel => exact ⟨_, (((Int.tmod a0 8) == 1)), eq_, H', ⟨by first | omega | exact Nat.le_refl _⟩, ⟨bk_ BK280.out⟩, ⟨bm_ HB.out GE280.out⟩⟩
   ·
    rw [if_neg c7] at H
    have ⟨c7b0, c7b1⟩ := nqb_ c7; (first | rw [c7b0] | (simp only [i64_w, i32_w]; rw [c7b0]) | skip); have H' := Aside0.mk H; clear H; go_wp2; go_meet
    case rel => exact ⟨_, (((Int.tmod a0 8) == 3)), eq_, H', ⟨by first | omega | exact Nat.le_refl _⟩, ⟨bk_ BK280.out⟩, ⟨bm_ HB.out GE280.out⟩⟩
  case rest =>
   clear HC5 c2 c2b0 c2b1; obtain ⟨kq, x13_4, rfl, HA, HJ4, BK280, HB⟩ := hcut
   cases kq with
   | zero => exact absurd HA.out (by simp [posternref02_Uses.j0])
   | succ kj4 =>
    have H := HA.out; clear HA; simp only [posternref02_Uses.j0] at H
    by_cases c8 : x13_4 = true
    ·
     subst c8
     rw [if_pos rfl] at H; simp only [Option.some.injEq, Prod.mk.injEq] at H; obtain ⟨rfl, rfl, rfl, rfl⟩ := H; obtain ⟨⟨hcz9_0, hcz9_1, hcz9_2, hcz9_3⟩, hfz9_0, hfz9_1, hfz9_2, hfz9_3⟩ := blk4_ BK280.out; go_wp2; refine bodyPost_ret (results_cell_row rfl _ _ gb280 94 #[.bool true, .bool true, .bool true, .bool false] (0, 0) _ rfl (bz0_ BK280.out) Try.underlying94 rfl (by kernel_rfl)) rfl ?_; exact ⟨rr_, bm_ HB.out GE280.out⟩
    ·
     replace c8 := Bool.eq_false_iff.mpr c8
     subst c8; rw [if_neg (show ¬ (false = true) by decide)] at H
     by_cases c10 : (Int.tmod a0 8) = 2
     ·
      rw [if_pos c10] at H
      have ⟨c10b0, c10b1⟩ := eqb_ c10; clear c10; simp only [Option.some.injEq, Prod.mk.injEq] at H; obtain ⟨rfl, rfl, rfl, rfl⟩ := H; obtain ⟨⟨hcz11_0, hcz11_1, hcz11_2, hcz11_3⟩, hfz11_0, hfz11_1, hfz11_2, hfz11_3⟩ := blk4_ BK280.out; go_wp2; refine bodyPost_ret (results_cell_row rfl _ _ gb280 94 #[.bool true, .bool false, .bool true, .bool true] (0, 0) _ rfl (bz0_ BK280.out) Try.underlying94 rfl (by kernel_rfl)) rfl ?_; exact ⟨rr_, bm_ HB.out GE280.out⟩
     ·
      rw [if_neg c10] at H
      have ⟨c10b0, c10b1⟩ := nqb_ c10; have HC12 := Aside0.mk H; clear H; go_upto_if 20 with (fail)
      go_cut [20] (fun v20 wc => ∃ (kq : Nat) (x20_11 : Bool), v20 = .bool x20_11 ∧ Aside0 (posternref02_Uses.j1 kq a0 ((Int.tmod (wrap64 (Int.tdiv a0 8)) 2) == 1) x20_11 = some (r1, r2, r3, r4)) ∧ Aside0 (kq ≤ kj4) ∧ Aside0 (wc.heap[gb280]? = some (.cells #[.bool false, .bool false, .bool false, .bool false] 94 (0, 0))) ∧ Aside0 (Below w.heap.size w wc))
      case first =>
       have H := HC12.out; clear HC12
       by_cases c13 : (Int.tmod a0 8) = 4
       ·
        rw [if_pos c13] at H
        have ⟨c13b0, c13b1⟩ := eqb_ c13; clear c13; (first | rw [c13b0] | (simp only [i64_w, i32_w]; rw [c13b0]) | skip); have H' := Aside0.mk H; clear H; go_wp2; go_meet
        case rel => exact ⟨_, (((Int.tmod a0 8) == 4)), eq_, H', ⟨by have := HJ4.out; first | omega | exact Nat.le_refl _⟩, ⟨bk_ BK280.out⟩, ⟨bm_ HB.out GE280.out⟩⟩
       ·
        rw [if_neg c13] at H
        have ⟨c13b0, c13b1⟩ := nqb_ c13; (first | rw [c13b0] | (simp only [i64_w, i32_w]; rw [c13b0]) | skip); have H' := Aside0.mk H; clear H; go_wp2; go_meet
        case rel => exact ⟨_, (((Int.tmod a0 8) == 7)), eq_, H', ⟨by have := HJ4.out; first | omega | exact Nat.le_refl _⟩, ⟨bk_ BK280.out⟩, ⟨bm_ HB.out GE280.out⟩⟩
      case rest =>
       clear HC12 c10 c10b0 c10b1; obtain ⟨kq, x20_11, rfl, HA, HJ11, BK280, HB⟩ := hcut
       cases kq with
       | zero => exact absurd HA.out (by simp [posternref02_Uses.j1])
       | succ kj11 =>
        have H := HA.out; clear HA; simp only [posternref02_Uses.j1] at H
        by_cases c14 : x20_11 = true
        ·
         subst c14
         rw [if_pos rfl] at H
         by_cases c15 : (wrap64 (Int.tdiv a0 16)) = 8
         ·
          rw [if_pos c15] at H
          have ⟨c15b0, c15b1⟩ := eqb_ c15; clear c15; simp only [Option.some.injEq, Prod.mk.injEq] at H; obtain ⟨rfl, rfl, rfl, rfl⟩ := H; obtain ⟨⟨hcz16_0, hcz16_1, hcz16_2, hcz16_3⟩, hfz16_0, hfz16_1, hfz16_2, hfz16_3⟩ := blk4_ BK280.out; go_wp2; refine bodyPost_ret (results_cell_row rfl _ _ gb280 94 #[.bool true, .bool false, .bool false, .bool false] (0, 0) _ rfl (bz0_ BK280.out) Try.underlying94 rfl (by kernel_rfl)) rfl ?_; exact ⟨rr_, bm_ HB.out GE280.out⟩
         ·
          rw [if_neg c15] at H
          have ⟨c15b0, c15b1⟩ := nqb_ c15; simp only [Option.some.injEq, Prod.mk.injEq] at H; obtain ⟨rfl, rfl, rfl, rfl⟩ := H; obtain ⟨⟨hcz17_0, hcz17_1, hcz17_2, hcz17_3⟩, hfz17_0, hfz17_1, hfz17_2, hfz17_3⟩ := blk4_ BK280.out; go_wp2; refine bodyPost_ret (results_cell_row rfl _ _ gb280 94 #[.bool true, .bool ((Int.tmod (wrap64 (Int.tdiv a0 8)) 2) == 1), .bool false, .bool (!((Int.tmod (wrap64 (Int.tdiv a0 8)) 2) == 1))] (0, 0) _ rfl (bz0_ BK280.out) Try.underlying94 rfl (by kernel_rfl)) rfl ?_; exact ⟨rr_, bm_ HB.out GE280.out⟩
        ·
         replace c14 := Bool.eq_false_iff.mpr c14
         subst c14; rw [if_neg (show ¬ (false = true) by decide)] at H
         by_cases c18 : a0 = 5
         ·
          rw [if_pos c18] at H
          have ⟨c18b0, c18b1⟩ := eqb_ c18; clear c18; simp only [Option.some.injEq, Prod.mk.injEq] at H; obtain ⟨rfl, rfl, rfl, rfl⟩ := H; obtain ⟨⟨hcz19_0, hcz19_1, hcz19_2, hcz19_3⟩, hfz19_0, hfz19_1, hfz19_2, hfz19_3⟩ := blk4_ BK280.out; go_wp2; refine bodyPost_ret (results_cell_row rfl _ _ gb280 94 #[.bool false, .bool false, .bool true, .bool false] (0, 0) _ rfl (bz0_ BK280.out) Try.underlying94 rfl (by kernel_rfl)) rfl ?_; exact ⟨rr_, bm_ HB.out GE280.out⟩
         ·
          rw [if_neg c18] at H
          have ⟨c18b0, c18b1⟩ := nqb_ c18
          by_cases c20 : a0 = 133
          ·
           rw [if_pos c20] at H
           have ⟨c20b0, c20b1⟩ := eqb_ c20; clear c20; simp only [Option.some.injEq, Prod.mk.injEq] at H; obtain ⟨rfl, rfl, rfl, rfl⟩ := H; obtain ⟨⟨hcz21_0, hcz21_1, hcz21_2, hcz21_3⟩, hfz21_0, hfz21_1, hfz21_2, hfz21_3⟩ := blk4_ BK280.out; go_wp2; refine bodyPost_ret (results_cell_row rfl _ _ gb280 94 #[.bool false, .bool true, .bool false, .bool true] (0, 0) _ rfl (bz0_ BK280.out) Try.underlying94 rfl (by kernel_rfl)) rfl ?_; exact ⟨rr_, bm_ HB.out GE280.out⟩
          ·
           rw [if_neg c20] at H
           have ⟨c20b0, c20b1⟩ := nqb_ c20
           by_cases c22 : a0 = 149
           ·
            rw [if_pos c22] at H
            have ⟨c22b0, c22b1⟩ := eqb_ c22; clear c22; simp only [Option.some.injEq, Prod.mk.injEq] at H; obtain ⟨rfl, rfl, rfl, rfl⟩ := H; obtain ⟨⟨hcz23_0, hcz23_1, hcz23_2, hcz23_3⟩, hfz23_0, hfz23_1, hfz23_2, hfz23_3⟩ := blk4_ BK280.out; go_wp2; refine bodyPost_ret (results_cell_row rfl _ _ gb280 94 #[.bool false, .bool false, .bool false, .bool false] (0, 0) _ rfl (bz0_ BK280.out) Try.underlying94 rfl (by kernel_rfl)) rfl ?_; exact ⟨rr_, bm_ HB.out GE280.out⟩
           ·
            rw [if_neg c22] at H
            have ⟨c22b0, c22b1⟩ := nqb_ c22; simp only [Option.some.injEq, Prod.mk.injEq] at H; obtain ⟨rfl, rfl, rfl, rfl⟩ := H; obtain ⟨⟨hcz24_0, hcz24_1, hcz24_2, hcz24_3⟩, hfz24_0, hfz24_1, hfz24_2, hfz24_3⟩ := blk4_ BK280.out; go_wp2; refine bodyPost_ret (results_cell_row rfl _ _ gb280 94 #[.bool true, .bool ((Int.tmod (wrap64 (Int.tdiv a0 8)) 2) == 1), .bool true, .bool (!((Int.tmod (wrap64 (Int.tdiv a0 8)) 2) == 1))] (0, 0) _ rfl (bz0_ BK280.out) Try.underlying94 rfl (by kernel_rfl)) rfl ?_; exact ⟨rr_, bm_ HB.out GE280.out⟩

end Go.Proofs.Ytmijlibnembkaaa.PA
