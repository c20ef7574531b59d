-- Printed by wip/tools/extprint.py over the kit's printer, with contracts of this session's own. Lean checks it.
import Derived.Test.YtmijlibnembkaaaAgPAx0
import Derived.Test.YtmijlibnembkaaaAgPAx1
import Derived.Test.YtmijlibnembkaaaAgPAx2
import Derived.Test.YtmijlibnembkaaaAgPAx12
import Derived.Test.YtmijlibnembkaaaAgPAx13

namespace Go.Proofs.Ytmijlibnembkaaa.PA
open Go.RowKit Go.Proofs.YtmijlibnembkaaaW.PrintWords Go.Proofs.YtmijlibnembkaaaW.PrintLast Go.Proofs.YtmijlibnembkaaaW.PrintMore
attribute [local go_sem] max2_int min2_int max_two min_two max_three min_three max_four min_four   -- for this text's walks alone
set_option linter.unusedVariables false
set_option linter.unusedSimpArgs false

attribute [local go_sem high] eqA34 eqA43
/-! ### posternref18_SameInsts: function 10 -/
def posternref18_SameInsts.l0 : Nat → List (S43) → List (S43) → Int → Int → Option (Bool)
 | 0, _, _, _, _ => none
 | k + 1, x0, x1, x12, x13 => if x13 < x12 then (if 0 ≤ x13 then (if x13 < (x0.length : Int) then (if x13 < (x1.length : Int) then (if (!(((rd_T43 x0 x13).f0) == ((rd_T43 x1 x13).f0)) || (!(((rd_T43 x0 x13).f1) == ((rd_T43 x1 x13).f1)) || (!(((rd_T43 x0 x13).f2) == ((rd_T43 x1 x13).f2)) || (!(((rd_T43 x0 x13).f3) == ((rd_T43 x1 x13).f3)) || (!(((rd_T43 x0 x13).f4) == ((rd_T43 x1 x13).f4))))))) = true then (some false) else (posternref18_SameInsts.l0 k x0 x1 x12 (wrap64 (x13 + 1)))) else (none)) else (none)) else (none)) else (some true)
def posternref18_SameInsts.f (k : Nat) (l0 : List (S43)) (l1 : List (S43)) : Option (Bool) := if (l0.length : Int) = (l1.length : Int) then (posternref18_SameInsts.l0 k l0 l1 (l0.length : Int) 0) else (some false)
theorem posternref18_SameInsts.mono_l : ∀ k, (∀ y0 y1 y2 y3, LeO (posternref18_SameInsts.l0 k y0 y1 y2 y3) (posternref18_SameInsts.l0 (k + 1) y0 y1 y2 y3))
 | 0 => fun _ _ _ _ r h => by simp [posternref18_SameInsts.l0] at h
 | k + 1 => by
  have ih0 := posternref18_SameInsts.mono_l k
  ·
   intro y0 y1 y2 y3
   unfold posternref18_SameInsts.l0
   repeat' first
   | (with_reducible exact ih0 _ _ _ _)
   | (with_reducible exact LeO.refl _)
   | (with_reducible exact LeO.none _)
   | (with_reducible refine LeO.ite ?_ ?_)
   | (with_reducible refine LeO.bind ?_ (fun _ => ?_))
theorem posternref18_SameInsts.mono : ∀ a0 a1 k, LeO (posternref18_SameInsts.f k a0 a1) (posternref18_SameInsts.f (k + 1) a0 a1) := by
 intro a0 a1 k; have ih0 := posternref18_SameInsts.mono_l k
 unfold posternref18_SameInsts.f
 repeat' first
   | (with_reducible exact ih0 _ _ _ _)
   | (with_reducible exact LeO.refl _)
   | (with_reducible exact LeO.none _)
   | (with_reducible refine LeO.ite ?_ ?_)
   | (with_reducible refine LeO.bind ?_ (fun _ => ?_))
set_option maxHeartbeats 8000000 in
set_option maxRecDepth 100000 in
theorem posternref18_SameInsts.calls (k : Nat) (A0 : Option Addr) (c0 : Nat) (l0 : List (S43)) (A1 : Option Addr) (c1 : Nat) (l1 : List (S43)) (r : Bool) (w : World) (hr0 : Kd.C k43 w A0 l0.length l0) (hc0 : l0.length ≤ c0) (hr1 : Kd.C k43 w A1 l1.length l1) (hc1 : l1.length ≤ c1) (h : posternref18_SameInsts.f k l0 l1 = some r) :
  Calls Try.prog 10 #[.slice A0 l0.length c0, .slice A1 l1.length c1] w fun e w' => e = .returned (.bool r) ∧ Drawn0 w w' := by
 have hu43 := Try.underlying43; have HR0 := Aside0.mk hr0; have HC0 := Aside0.mk hc0; clear hr0 hc0; have HR1 := Aside0.mk hr1; have HC1 := Aside0.mk hc1; clear hr1 hc1; have H : (if (l0.length : Int) = (l1.length : Int) then (posternref18_SameInsts.l0 k l0 l1 (l0.length : Int) 0) else (some false)) = some r := h; clear h
 by_cases c3 : (l0.length : Int) = (l1.length : Int)
 ·
  rw [if_pos c3] at H
  have c3b0 : ((l0.length : Int) == (l1.length : Int)) = true := beq_iff_eq.mpr c3; have c3b1 : ((l0.length : Int) != (l1.length : Int)) = false := bne_eq_false_iff_eq.mpr c3; have c3b2 : (l0.length == l1.length) = true := by first | simpa using c3 | (simp at c3 ⊢; omega)
  clear c3; have H' := Aside0.mk H; clear H; go_enter Try.func10, Try.ntmps10
  go_wp2
  repeat (go_quiet (fail); try go_wp2)
  go_loopg [13] k (fun kq v13 w' => ∃ (x13_1 : Int), v13 = .int .i64 x13_1 ∧ Aside0 (posternref18_SameInsts.l0 kq l0 l1 (l0.length : Int) x13_1 = some r) ∧ Aside0 (kq ≤ k) ∧ Drawn0 w w')
  case atStart => exact ⟨(0), eq_, H', ⟨Nat.le_refl _⟩, by repeat (first | exact Drawn0.refl _ | apply Drawn0.step)⟩
  case round =>
   clear H'; (try clear c1); (try clear p2); (try clear c3); (try clear c3b0); (try clear c3b1); (try clear c3b2); obtain ⟨x13_1, rfl, HA, HK1, ⟨m1, rfl⟩⟩ := hrel
   cases gk with
   | zero => exact absurd HA.out (by simp [posternref18_SameInsts.l0])
   | succ k1 =>
    have H := HA.out; clear HA; simp only [posternref18_SameInsts.l0] at H
    by_cases c4 : x13_1 < (l0.length : Int)
    ·
     rw [if_pos c4] at H
     have c4b0 : decide (x13_1 < (l0.length : Int)) = true := decide_eq_true c4; clear c4
     by_cases c5 : 0 ≤ x13_1
     ·
      rw [if_pos c5] at H
      have c5b0 : decide (0 ≤ x13_1) = true := decide_eq_true c5; clear c5
      by_cases c6 : x13_1 < (l0.length : Int)
      ·
       rw [if_pos c6] at H
       have c6b0 : decide (x13_1 < (l0.length : Int)) = true := decide_eq_true c6; clear c6
       by_cases c7 : x13_1 < (l1.length : Int)
       ·
        rw [if_pos c7] at H
        have c7b0 : decide (x13_1 < (l1.length : Int)) = true := decide_eq_true c7; clear c7
        by_cases c8 : (!(((rd_T43 l0 x13_1).f0) == ((rd_T43 l1 x13_1).f0)) || (!(((rd_T43 l0 x13_1).f1) == ((rd_T43 l1 x13_1).f1)) || (!(((rd_T43 l0 x13_1).f2) == ((rd_T43 l1 x13_1).f2)) || (!(((rd_T43 l0 x13_1).f3) == ((rd_T43 l1 x13_1).f3)) || (!(((rd_T43 l0 x13_1).f4) == ((rd_T43 l1 x13_1).f4))))))) = true
        ·
         rw [if_pos c8] at H
         have c8b0 : (!(((rd_T43 l0 x13_1).f0) == ((rd_T43 l1 x13_1).f0)) || (!(((rd_T43 l0 x13_1).f1) == ((rd_T43 l1 x13_1).f1)) || (!(((rd_T43 l0 x13_1).f2) == ((rd_T43 l1 x13_1).f2)) || (!(((rd_T43 l0 x13_1).f3) == ((rd_T43 l1 x13_1).f3)) || (!(((rd_T43 l0 x13_1).f4) == ((rd_T43 l1 x13_1).f4))))))) = true := c8; clear c8; obtain rfl := Option.some.inj H; have p423 : 0 ≤ (x13_1 : Int) := of_decide_eq_true (by first | (with_reducible assumption) | assumption); have q423 : x13_1 < (l0.length : Int) := of_decide_eq_true (by first | (with_reducible assumption) | assumption); obtain ⟨ad423, e423, hx423_0, hx423_1, hx423_2, hx423_3, hx423_4⟩ := at_T43 HR0.out x13_1 p423 q423
         cases e423
         replace p423 := eq_true p423; replace q423 := eq_true q423; have p424 : 0 ≤ (x13_1 : Int) := of_decide_eq_true (by first | (with_reducible assumption) | assumption); have q424 : x13_1 < (l1.length : Int) := of_decide_eq_true (by first | (with_reducible assumption) | assumption); obtain ⟨ad424, e424, hx424_0, hx424_1, hx424_2, hx424_3, hx424_4⟩ := at_T43 HR1.out x13_1 p424 q424
         cases e424
         replace p424 := eq_true p424; replace q424 := eq_true q424; go_wp2
         repeat (go_quiet (fail); try go_wp2)
         go_ret
         exact ⟨by first | rfl | (simp; done) | (simp [*]; done), by repeat (first | exact Drawn0.refl _ | apply Drawn0.step)⟩
        ·
         rw [if_neg c8] at H
         have c8b0 : (!(((rd_T43 l0 x13_1).f0) == ((rd_T43 l1 x13_1).f0)) || (!(((rd_T43 l0 x13_1).f1) == ((rd_T43 l1 x13_1).f1)) || (!(((rd_T43 l0 x13_1).f2) == ((rd_T43 l1 x13_1).f2)) || (!(((rd_T43 l0 x13_1).f3) == ((rd_T43 l1 x13_1).f3)) || (!(((rd_T43 l0 x13_1).f4) == ((rd_T43 l1 x13_1).f4))))))) = false := by simpa using c8
         clear c8; have H' := Aside0.mk H; clear H; have p423 : 0 ≤ (x13_1 : Int) := of_decide_eq_true (by first | (with_reducible assumption) | assumption); have q423 : x13_1 < (l0.length : Int) := of_decide_eq_true (by first | (with_reducible assumption) | assumption); obtain ⟨ad423, e423, hx423_0, hx423_1, hx423_2, hx423_3, hx423_4⟩ := at_T43 HR0.out x13_1 p423 q423
         cases e423
         replace p423 := eq_true p423; replace q423 := eq_true q423; have p424 : 0 ≤ (x13_1 : Int) := of_decide_eq_true (by first | (with_reducible assumption) | assumption); have q424 : x13_1 < (l1.length : Int) := of_decide_eq_true (by first | (with_reducible assumption) | assumption); obtain ⟨ad424, e424, hx424_0, hx424_1, hx424_2, hx424_3, hx424_4⟩ := at_T43 HR1.out x13_1 p424 q424
         cases e424
         replace p424 := eq_true p424; replace q424 := eq_true q424; go_wp2
         repeat (go_quiet (fail); try go_wp2)
         go_roundg k1
         case measure => have := HK1.out; omega
         case rel => exact ⟨(wrap64 (x13_1 + 1)), eq_, H', ⟨by have := HK1.out; omega⟩, by repeat (first | exact Drawn0.refl _ | apply Drawn0.step)⟩
       ·
        rw [if_neg c7] at H
        exact absurd H (by simp)
      ·
       rw [if_neg c6] at H
       exact absurd H (by simp)
     ·
      rw [if_neg c5] at H
      exact absurd H (by simp)
    ·
     rw [if_neg c4] at H
     have c4b0 : decide (x13_1 < (l0.length : Int)) = false := decide_eq_false c4; clear c4; obtain rfl := Option.some.inj H; go_wp2
     repeat (go_quiet (fail); try go_wp2)
     go_ret
     exact ⟨by first | rfl | (simp; done) | (simp [*]; done), by repeat (first | exact Drawn0.refl _ | apply Drawn0.step)⟩
 ·
  rw [if_neg c3] at H
  have c3b0 : ((l0.length : Int) == (l1.length : Int)) = false := beq_eq_false_iff_ne.mpr c3; have c3b1 : ((l0.length : Int) != (l1.length : Int)) = true := bne_iff_ne.mpr c3; have c3b2 : (l0.length == l1.length) = false := by first | simpa using c3 | (simp at c3 ⊢; omega)
  obtain rfl := Option.some.inj H; go_enter Try.func10, Try.ntmps10
  go_wp2
  repeat (go_quiet (fail); try go_wp2)
  go_ret
  exact ⟨by first | rfl | (simp; done) | (simp [*]; done), by repeat (first | exact Drawn0.refl _ | apply Drawn0.step)⟩

/-! ### posternlaw18_PruneAgain: function 4 -/
mutual
def posternlaw18_PruneAgain.l0 : Nat → List (S43) → List (S43) → List (S34) → List (S34) → Int → Int → Option (Bool)
 | 0, _, _, _, _, _, _ => none
 | k + 1, x0, x5, x6, x8, x38, x39 => if x39 < x38 then (if 0 ≤ x39 then (if x39 < (x8.length : Int) then (posternlaw18_PruneAgain.l0 k x0 x5 x6 (x8.set (x39 : Int).toNat (⟨true, (rd_T34 x8 x39).f1, (rd_T34 x8 x39).f2⟩ : S34)) x38 (wrap64 (x39 + 1))) else (none)) else (none)) else ((prune_Prune.f k x0 x8).bind fun bt470 => (posternlaw18_PruneAgain.l1 k x0 x5 x6 bt470.1 bt470.2.2 (x6.length : Int) 0))
def posternlaw18_PruneAgain.l1 : Nat → List (S43) → List (S43) → List (S34) → List (S43) → Int → Int → Int → Option (Bool)
 | 0, _, _, _, _, _, _, _ => none
 | k + 1, x0, x5, x6, x10, x12, x55, x56 => if x56 < x55 then (if 0 ≤ x56 then (if x56 < (x6.length : Int) then (posternlaw18_PruneAgain.l1 k x0 x5 (x6.set (x56 : Int).toNat (⟨true, (rd_T34 x6 x56).f1, (rd_T34 x6 x56).f2⟩ : S34)) x10 x12 x55 (wrap64 (x56 + 1))) else (none)) else (none)) else ((prune_Prune.f k x5 x6).bind fun bt478 => (if x12 = 0 then (if bt478.2.2 = 0 then ((posternref18_SameInsts.f k x10 x0).bind fun t485 => (if t485 = true then ((posternref18_SameInsts.f k bt478.1 x5).bind fun t486 => (if t486 = true then (some ((bt478.2.1.length : Int) == (x6.length : Int))) else (some false))) else (some false))) else (some false)) else (some false)))
end
def posternlaw18_PruneAgain.f (k : Nat) (l0 : List (S43)) (l1 : List (S34)) : Option (Bool) := (posternlaw18_first.f k).bind fun t458 => (if t458 = true then ((prune_Prune.f k l0 l1).bind fun bt459 => (if bt459.2.2 = 0 then (if 0 ≤ (l0.length : Int) then (if ((l0.length : Int) : Int).toNat ≤ 17592186044416 then ((some (List.replicate ((l0.length : Int) : Int).toNat z34 : List (S34))).bind fun y466 => (posternlaw18_PruneAgain.l0 k l0 bt459.1 bt459.2.1 y466 (y466.length : Int) 0)) else (none)) else (none)) else (some ((wrap64 ((bt459.1.length : Int) + (bt459.2.1.length : Int))) == 0)))) else (some false))
theorem posternlaw18_PruneAgain.mono_l : ∀ k, (∀ y0 y1 y2 y3 y4 y5, LeO (posternlaw18_PruneAgain.l0 k y0 y1 y2 y3 y4 y5) (posternlaw18_PruneAgain.l0 (k + 1) y0 y1 y2 y3 y4 y5)) ∧ (∀ y0 y1 y2 y3 y4 y5 y6, LeO (posternlaw18_PruneAgain.l1 k y0 y1 y2 y3 y4 y5 y6) (posternlaw18_PruneAgain.l1 (k + 1) y0 y1 y2 y3 y4 y5 y6))
 | 0 => ⟨fun _ _ _ _ _ _ r h => by simp [posternlaw18_PruneAgain.l0] at h, fun _ _ _ _ _ _ _ r h => by simp [posternlaw18_PruneAgain.l1] at h⟩
 | k + 1 => by
  obtain ⟨ih0, ih1⟩ := posternlaw18_PruneAgain.mono_l k; refine ⟨?_, ?_⟩
  ·
   intro y0 y1 y2 y3 y4 y5
   unfold posternlaw18_PruneAgain.l0
   repeat' first
   | (with_reducible exact ih0 _ _ _ _ _ _)
   | (with_reducible exact ih1 _ _ _ _ _ _ _)
   | (with_reducible exact posternlaw18_first.mono _)
   | (with_reducible exact posternref18_SameInsts.mono _ _ _)
   | (with_reducible exact prune_Prune.mono _ _ _)
   | (with_reducible exact LeO.refl _)
   | (with_reducible exact LeO.none _)
   | (with_reducible refine LeO.ite ?_ ?_)
   | (with_reducible refine LeO.bind ?_ (fun _ => ?_))
  ·
   intro y0 y1 y2 y3 y4 y5 y6
   unfold posternlaw18_PruneAgain.l1
   repeat' first
   | (with_reducible exact ih0 _ _ _ _ _ _)
   | (with_reducible exact ih1 _ _ _ _ _ _ _)
   | (with_reducible exact posternlaw18_first.mono _)
   | (with_reducible exact posternref18_SameInsts.mono _ _ _)
   | (with_reducible exact prune_Prune.mono _ _ _)
   | (with_reducible exact LeO.refl _)
   | (with_reducible exact LeO.none _)
   | (with_reducible refine LeO.ite ?_ ?_)
   | (with_reducible refine LeO.bind ?_ (fun _ => ?_))
theorem posternlaw18_PruneAgain.mono : ∀ a0 a1 k, LeO (posternlaw18_PruneAgain.f k a0 a1) (posternlaw18_PruneAgain.f (k + 1) a0 a1) := by
 intro a0 a1 k; obtain ⟨ih0, ih1⟩ := posternlaw18_PruneAgain.mono_l k
 unfold posternlaw18_PruneAgain.f
 repeat' first
   | (with_reducible exact ih0 _ _ _ _ _ _)
   | (with_reducible exact ih1 _ _ _ _ _ _ _)
   | (with_reducible exact posternlaw18_first.mono _)
   | (with_reducible exact posternref18_SameInsts.mono _ _ _)
   | (with_reducible exact prune_Prune.mono _ _ _)
   | (with_reducible exact LeO.refl _)
   | (with_reducible exact LeO.none _)
   | (with_reducible refine LeO.ite ?_ ?_)
   | (with_reducible refine LeO.bind ?_ (fun _ => ?_))
set_option maxHeartbeats 8000000 in
set_option maxRecDepth 100000 in
theorem posternlaw18_PruneAgain.calls (k : Nat) (A0 : Option Addr) (c0 : Nat) (l0 : List (S43)) (A1 : Option Addr) (c1 : Nat) (l1 : List (S34)) (r : Bool) (w : World) (hr0 : Kd.C k43 w A0 l0.length l0) (hc0 : l0.length ≤ c0) (hr1 : Kd.C k34 w A1 l1.length l1) (hc1 : l1.length ≤ c1) (h : posternlaw18_PruneAgain.f k l0 l1 = some r) :
  Calls Try.prog 4 #[.slice A0 l0.length c0, .slice A1 l1.length c1] w fun e w' => e = .returned (.bool r) ∧ Below w.heap.size w w' := by
 have HR0 := Aside0.mk hr0; have HC0 := Aside0.mk hc0; clear hr0 hc0; have HR1 := Aside0.mk hr1; have HC1 := Aside0.mk hc1; clear hr1 hc1; have HB := Aside0.mk (Below.refl w.heap.size w); have H : ((posternlaw18_first.f k).bind fun t458 => (if t458 = true then ((prune_Prune.f k l0 l1).bind fun bt459 => (if bt459.2.2 = 0 then (if 0 ≤ (l0.length : Int) then (if ((l0.length : Int) : Int).toNat ≤ 17592186044416 then ((some (List.replicate ((l0.length : Int) : Int).toNat z34 : List (S34))).bind fun y466 => (posternlaw18_PruneAgain.l0 k l0 bt459.1 bt459.2.1 y466 (y466.length : Int) 0)) else (none)) else (none)) else (some ((wrap64 ((bt459.1.length : Int) + (bt459.2.1.length : Int))) == 0)))) else (some false))) = some r := h; clear h; replace H := Option.bind_eq_some_iff.mp H; obtain ⟨t458, A30, H⟩ := H; replace H : (if t458 = true then ((prune_Prune.f k l0 l1).bind fun bt459 => (if bt459.2.2 = 0 then (if 0 ≤ (l0.length : Int) then (if ((l0.length : Int) : Int).toNat ≤ 17592186044416 then ((some (List.replicate ((l0.length : Int) : Int).toNat z34 : List (S34))).bind fun y466 => (posternlaw18_PruneAgain.l0 k l0 bt459.1 bt459.2.1 y466 (y466.length : Int) 0)) else (none)) else (none)) else (some ((wrap64 ((bt459.1.length : Int) + (bt459.2.1.length : Int))) == 0)))) else (some false)) = some r := H; have A3 := Aside0.mk A30; clear A30
 by_cases c4 : t458 = true
 ·
  subst c4
  have H1 : ((prune_Prune.f k l0 l1).bind fun bt459 => (if bt459.2.2 = 0 then (if 0 ≤ (l0.length : Int) then (if ((l0.length : Int) : Int).toNat ≤ 17592186044416 then ((some (List.replicate ((l0.length : Int) : Int).toNat z34 : List (S34))).bind fun y466 => (posternlaw18_PruneAgain.l0 k l0 bt459.1 bt459.2.1 y466 (y466.length : Int) 0)) else (none)) else (none)) else (some ((wrap64 ((bt459.1.length : Int) + (bt459.2.1.length : Int))) == 0)))) = some r := by rw [if_pos rfl] at H; exact H
  clear H; have H := H1; clear H1; replace H := Option.bind_eq_some_iff.mp H; obtain ⟨⟨t459, t460, t461⟩, A50, H⟩ := H; replace H : (if t461 = 0 then (if 0 ≤ (l0.length : Int) then (if ((l0.length : Int) : Int).toNat ≤ 17592186044416 then ((some (List.replicate ((l0.length : Int) : Int).toNat z34 : List (S34))).bind fun y466 => (posternlaw18_PruneAgain.l0 k l0 t459 t460 y466 (y466.length : Int) 0)) else (none)) else (none)) else (some ((wrap64 ((t459.length : Int) + (t460.length : Int))) == 0))) = some r := H; have A5 := Aside0.mk A50; clear A50
  by_cases c6 : t461 = 0
  ·
   rw [if_pos c6] at H
   have c6b0 : (t461 == 0) = true := beq_iff_eq.mpr c6; have c6b1 : (t461 != 0) = false := bne_eq_false_iff_eq.mpr c6; clear c6
   by_cases c7 : 0 ≤ (l0.length : Int)
   ·
    rw [if_pos c7] at H
    have c7b0 := eq_true c7; have c7b1 : decide (0 ≤ (l0.length : Int)) = true := decide_eq_true c7; clear c7
    by_cases c8 : ((l0.length : Int) : Int).toNat ≤ 17592186044416
    ·
     rw [if_pos c8] at H
     have c8b0 := eq_true c8; have c8b1 : decide (((l0.length : Int) : Int).toNat ≤ 17592186044416) = true := decide_eq_true c8; clear c8; obtain ⟨y466, hy466⟩ : ∃ y_ : List (S34), y_ = (List.replicate ((l0.length : Int) : Int).toNat z34) := ⟨_, rfl⟩; replace H : (posternlaw18_PruneAgain.l0 k l0 t459 t460 y466 (y466.length : Int) 0) = some r := by first | (rw [hy466]; with_reducible exact H) | (have H2_ := (Option.bind_some _ _).symm.trans H; rw [hy466]; with_reducible exact H2_) | (have H2_ := (Option.bind_some _ _).symm.trans H; with_reducible exact H2_) | with_reducible exact H | (rw [hy466]; exact H) | exact H
     have Ny466 := Aside0.mk hy466; clear hy466; have H' := Aside0.mk H; clear H; go_enter Try.func4, Try.ntmps4
     go_wp2_with (first | ((with_reducible refine gate_callee (f := 7) rfl ?_); refine goesL_ (some 17) rfl rfl Try.func7 (by kernel_rfl) rfl #[] rfl (by (try simp only [List.map_toArray, List.map_cons, List.map_nil]); first | done | rfl | (simp only [List.length_drop, List.length_take]; rfl)) ?_; (with_reducible refine (posternlaw18_first.calls k  true _ A3.out).mono ?_); rintro e w9 ⟨rfl, hb⟩; refine ⟨_, rfl, ?_⟩; have n0_ := Aside0.mk (below_step (bl_ HB.out) hb); clear HB; have HB := n0_; clear n0_; (try clear hb); (try clear hb2); (try clear hk); (try clear hi)) | ((with_reducible refine gate_callee (f := 8) rfl ?_); refine goesL_ (some 22) rfl rfl Try.func8 (by kernel_rfl) rfl #[.slice A0 l0.length c0, .slice A1 l1.length c1] rfl (by (try simp only [List.map_toArray, List.map_cons, List.map_nil]); first | done | rfl | (simp only [List.length_drop, List.length_take]; rfl)) ?_; (with_reducible refine (prune_Prune.calls k _ _ l0 _ _ l1 t459 t460 t461 _ ?side1 ?side2 ?side3 ?side4 A5.out).mono ?_); (case side1 => repeat (first | exact (Kd.C_below HR0.out HB.out) | (with_reducible refine Kd.C_alloc ?_ _) | (with_reducible refine Kd.C_drewN ?_ _) | (with_reducible refine Kd.C_drew ?_))); (case side2 => exact HC0.out); (case side3 => repeat (first | exact (Kd.C_below HR1.out HB.out) | (with_reducible refine Kd.C_alloc ?_ _) | (with_reducible refine Kd.C_drewN ?_ _) | (with_reducible refine Kd.C_drew ?_))); (case side4 => exact HC1.out); rintro e w10 ⟨v462, v464, rfl, ho0, ho1, hb⟩; refine ⟨_, rfl, ?_⟩; have n0_ := Aside0.mk (Kd.R_lower ho0 (below_size (bl_ HB.out))); have n1_ := Aside0.mk (Kd.R_lower ho1 (below_size (bl_ HB.out))); have n2_ := Aside0.mk (below_step (bl_ HB.out) hb); clear HB; have HO463 := n0_; have HO465 := n1_; have HB := n2_; clear n0_ n1_ n2_; (try clear hb); (try clear hb2); (try clear hk); (try clear hi); (try clear ho0); (try clear ho1)) | ((with_reducible refine gate_dst (N := 36) rfl ?_); (try (refine gate_guard (by rfl) ?_; dsimp only)); refine Kd.R_make k34 _ 34 rfl (N := 36) rfl 23 _ _ rfl (l0.length : Int) rfl rfl Try.underlying23 (.agg #[(.bool false), (.bool false), (.int .i64 0)]) 16 info34 rfl (by decide) (by omega) z34 (ok := fun _ => True) (okp := fun _ => True) (k34_mkM _ _ _ z34 ) (fun _ hk => hk) trivial (of_decide_eq_true (by first | (with_reducible assumption) | assumption)) (Nat.le_trans (Nat.mul_le_mul_right _ (of_decide_eq_true (by first | (with_reducible assumption) | assumption) : (l0.length : Int).toNat ≤ 17592186044416)) (by omega)) (Below.refl _ _) (Nat.le_refl _) ?_; intro v467 w11 ho12 hb hg_ hnew_; clear hg_ hnew_; (first | rw [← Ny466.out] at ho12 | (simp only [Int.reduceToNat] at ho12; rw [← Ny466.out] at ho12)); have n0_ := Aside0.mk (Kd.R_below (mv_ HO463.out) hb); have n1_ := Aside0.mk (Kd.R_elder' (mv_ HO465.out) (Kd.R_base ho12) hb); have n2_ := Aside0.mk (Kd.R_lower (Kd.R_new' ho12 (Kd.R_lt (mv_ HO465.out))) (below_size (bl_ HB.out))); have n3_ := Aside0.mk (below_step (bl_ HB.out) hb); clear HO463; clear HO465; clear HB; have HO463 := n0_; have HO465 := n1_; have HO468 := n2_; have HB := n3_; clear n0_ n1_ n2_ n3_; clear hb ho12; obtain ⟨Ao13, co13, eo13⟩ := Kd.R_slice HO468.out; subst eo13))
     go_loopg [39] k (fun kq v39 w' => ∃ (x8_1 : List (S34)) (x39_1 : Int), v39 = .int .i64 x39_1 ∧ Aside0 (posternlaw18_PruneAgain.l0 kq l0 t459 t460 x8_1 (y466.length : Int) x39_1 = some r) ∧ Aside0 (kq ≤ k) ∧ Aside0 (Kd.R k43 43 w' w.heap.size (fun _ => True) v462 t459) ∧ Aside0 (Kd.R k34 34 w' w.heap.size (fun k_ => some k_ ≠ ((.slice Ao13 y466.length co13) : Value).ownBlock) v464 t460) ∧ Aside0 (Kd.R k34 34 w' w.heap.size (fun k_ => some k_ ≠ (v464 : Value).ownBlock) (.slice Ao13 y466.length co13) x8_1) ∧ Aside0 (Below w.heap.size w w'))
     case atStart => exact ⟨(y466), (0), eq_, H', ⟨Nat.le_refl _⟩, ⟨by (with_reducible repeat (first | apply Kd.R_alloc | apply Kd.R_drewN | apply Kd.R_drew)); exact HO463.out⟩, ⟨by (with_reducible repeat (first | apply Kd.R_alloc | apply Kd.R_drewN | apply Kd.R_drew)); exact Kd.R_mono HO465.out (fun _ hk => hk.2)⟩, ⟨by (with_reducible repeat (first | apply Kd.R_alloc | apply Kd.R_drewN | apply Kd.R_drew)); exact Kd.R_mono HO468.out (fun _ hk => hk.2)⟩, ⟨by repeat (first | (with_reducible first | exact HB.out | apply below_alloc | apply pw_below_drewN | apply below_drew1) | exact HB.out)⟩⟩
     case round =>
      clear H'; (try clear c1); (try clear p2); (try clear c4); (try clear c6); (try clear c6b0); (try clear c6b1); (try clear p6); (try clear c7); (try clear c7b0); (try clear c7b1); (try clear c8); (try clear c8b0); (try clear c8b1); obtain ⟨x8_1, x39_1, rfl, HA, HK1, HO_5, HO_6, HO_8, HB⟩ := hrel; have hl8_1 := (Kd.R_reads' HO_8.out).1; rw [hl8_1] at HO_8; (try simp only [hl8_1]); (try simp only [hl8_1] at HO_5); (try simp only [hl8_1] at HO_6)
      cases gk with
      | zero => exact absurd HA.out (by simp [posternlaw18_PruneAgain.l0])
      | succ k1 =>
       have H := HA.out; clear HA; simp only [posternlaw18_PruneAgain.l0] at H
       by_cases c14 : x39_1 < (y466.length : Int)
       ·
        rw [if_pos c14] at H
        have c14b0 : decide (x39_1 < (y466.length : Int)) = true := decide_eq_true c14; clear c14
        by_cases c15 : 0 ≤ x39_1
        ·
         rw [if_pos c15] at H
         have c15b0 : decide (0 ≤ x39_1) = true := decide_eq_true c15; clear c15
         by_cases c16 : x39_1 < (x8_1.length : Int)
         ·
          rw [if_pos c16] at H
          have c16b0 : decide (x39_1 < (x8_1.length : Int)) = true := decide_eq_true c16; clear c16; obtain ⟨y469, hy469⟩ : ∃ y_ : List (S34), y_ = (x8_1.set (x39_1 : Int).toNat (⟨true, (rd_T34 x8_1 x39_1).f1, (rd_T34 x8_1 x39_1).f2⟩ : S34)) := ⟨_, rfl⟩; replace H : (posternlaw18_PruneAgain.l0 k1 l0 t459 t460 y469 (y466.length : Int) (wrap64 (x39_1 + 1))) = some r := by first | (rw [hy469]; with_reducible exact H) | (have H2_ := (Option.bind_some _ _).symm.trans H; rw [hy469]; with_reducible exact H2_) | (have H2_ := (Option.bind_some _ _).symm.trans H; with_reducible exact H2_) | with_reducible exact H | (rw [hy469]; exact H) | exact H
          have Ny469 := Aside0.mk hy469; clear hy469; have H' := Aside0.mk H; clear H; have p17 : 0 ≤ (x39_1 : Int) := of_decide_eq_true (by first | (with_reducible assumption) | assumption); have q17 : (x39_1 : Int) < ((x8_1.length : Int) : Int) := of_decide_eq_true (by first | (with_reducible assumption) | assumption); obtain ⟨go17, co17, eo17, gb17, gl17, cl17, HG17⟩ := Kd.R_form HO_8.out (by omega); (first | cases eo17 | (injection eo17 with ea_ en_ ec_; (first | subst ea_ | (injection ea_ with ea_; subst ea_)); subst ec_; clear en_)); have GB17 := Aside0.mk gb17; have GG17 := Aside0.mk HG17; clear gb17 gl17 HG17; obtain ⟨ce17, hcl17, hM17, hcc17, hfr17⟩ := Kd.R_elem HO_8.out z34 (x39_1 : Int) p17 q17; obtain rfl := k34_openM hM17; have hx17_0 : wr.cell? ⟨go17, (x39_1 : Int).toNat * 3, none⟩ = some (.bool ((rd_T34 x8_1 x39_1).f0)) := hcc17 0 _ rfl; have hx17_1 : wr.cell? ⟨go17, (x39_1 : Int).toNat * 3 + 1, none⟩ = some (.bool ((rd_T34 x8_1 x39_1).f1)) := hcc17 1 _ rfl; have hx17_2 : wr.cell? ⟨go17, (x39_1 : Int).toNat * 3 + 2, none⟩ = some (.int .i64 ((rd_T34 x8_1 x39_1).f2)) := hcc17 2 _ rfl; have hf17_0 : wr.frozen? ⟨go17, (x39_1 : Int).toNat * 3, none⟩ = false := hfr17 0; have hf17_1 : wr.frozen? ⟨go17, (x39_1 : Int).toNat * 3 + 1, none⟩ = false := hfr17 1; have hf17_2 : wr.frozen? ⟨go17, (x39_1 : Int).toNat * 3 + 2, none⟩ = false := hfr17 2; clear hcl17 hcc17 hfr17 hM17; replace p17 := eq_true p17; replace q17 := eq_true q17; have HX18 := Aside0.mk (show Kd.R k34 34 wr w.heap.size (fun k_ => some k_ ≠ (v464 : Value).ownBlock) (.slice (some ⟨go17, 0, none⟩) x8_1.length co13) x8_1 from (mv_ HO_8.out)); obtain ⟨ce18, hcl18, hM18, hcc18, hfr18⟩ := Kd.R_elem HX18.out z34 (x39_1 : Int) (of_decide_eq_true (by first | (with_reducible assumption) | assumption)) (by have h_ : (x39_1 : Int) < ((x8_1.length : Int) : Int) := of_decide_eq_true (by first | (with_reducible assumption) | assumption); first | exact h_ | (have e_ := (Kd.R_reads' HO_8.out).1; omega) | simpa using h_); obtain rfl := k34_openM hM18; have HP18 := Kd.R_seg HX18.out (x39_1 : Int) (of_decide_eq_true (by first | (with_reducible assumption) | assumption)) (by have h_ : (x39_1 : Int) < ((x8_1.length : Int) : Int) := of_decide_eq_true (by first | (with_reducible assumption) | assumption); first | exact h_ | (have e_ := (Kd.R_reads' HO_8.out).1; omega) | simpa using h_) (seg := [.bool true]) (j := 0) hcl18 hcc18 (show 1 ≤ 3 from by decide) (x' := (⟨true, (rd_T34 x8_1 x39_1).f1, (rd_T34 x8_1 x39_1).f2⟩ : S34)) (k34_mkM _ _ _ (⟨true, (rd_T34 x8_1 x39_1).f1, (rd_T34 x8_1 x39_1).f2⟩ : S34) ) (fun _ hk => hk); have hx18_0 := hcc18 0 _ rfl; (try simp only [show (k34).sz = 3 from rfl, Nat.mul_one, Nat.add_zero] at hx18_0); have hf18_0 := hfr18 0; (try simp only [show (k34).sz = 3 from rfl, Nat.mul_one, Nat.add_zero] at hf18_0); clear hcl18 hcc18 hfr18 hM18; go_wp2_with (first | ((with_reducible refine gate_store (t := 4) (p := 45) rfl ?_); refine store_event (t := 4) (p := 45) (v := ?vo_w19) (w1 := (wr.setCell ⟨go17, (x39_1 : Int).toNat * 3, none⟩ (.bool true))) ?hg ?ho ?hn ?hr ?_; (case ho => rfl); (case hg => rfl); (case hn => rfl); (case hr => first | (go_simp; done) | (go_simp; rfl)); intro w19 hw; have hg : wr.grownBy w19 (some go17) := (by rw [hw]; exact HP18.2); have hp_ : Kd.R k34 34 w19 w.heap.size (fun k_ => some k_ ≠ (v464 : Value).ownBlock) (.slice (some ⟨go17, 0, none⟩) x8_1.length co13) y469 := (by rw [hw, Ny469.out]; exact HP18.1); clear HP18; have n0_ := Aside0.mk (Kd.R_over' (v := (.slice (some ⟨go17, 0, none⟩) x8_1.length co13)) (mv_ HO_5.out) (Kd.R_typed HO_8.out) (by decide) hg); have n1_ := Aside0.mk (Kd.R_after (v := (.slice (some ⟨go17, 0, none⟩) x8_1.length co13)) (v1 := (.slice (some ⟨go17, 0, none⟩) x8_1.length co13)) (ok := (fun _ => True)) (by (with_reducible repeat (first | apply Kd.R_alloc | apply Kd.R_drewN | apply Kd.R_drew)); exact Kd.R_mono HO_6.out (fun _ hk => ⟨trivial, hk⟩)) hg (.inl rfl)); have n2_ := Aside0.mk (hp_); have n3_ := Aside0.mk ((by rw [hw]; exact below_set (HB.out) GB17.out : Below w.heap.size w w19)); clear HO_5; clear HO_6; clear HO_8; clear HB; have HO_5 := n0_; have HO_6 := n1_; have HO_8 := n2_; have HB := n3_; clear n0_ n1_ n2_ n3_; clear hg hw hp_))
          (try simp only [← hl8_1]); go_roundg k1
          case measure => have := HK1.out; omega
          case rel => exact ⟨(y469), (wrap64 (x39_1 + 1)), eq_, H', ⟨by have := HK1.out; omega⟩, ⟨by (try simp only [hl8_1]); (with_reducible repeat (first | apply Kd.R_alloc | apply Kd.R_drewN | apply Kd.R_drew)); exact HO_5.out⟩, ⟨by (try simp only [hl8_1]); (with_reducible repeat (first | apply Kd.R_alloc | apply Kd.R_drewN | apply Kd.R_drew)); exact Kd.R_mono HO_6.out (fun _ hk => hk.2)⟩, ⟨by (try simp only [hl8_1]); (with_reducible repeat (first | apply Kd.R_alloc | apply Kd.R_drewN | apply Kd.R_drew)); exact HO_8.out⟩, ⟨by repeat (first | (with_reducible first | exact HB.out | apply below_alloc | apply pw_below_drewN | apply below_drew1) | exact HB.out)⟩⟩
         ·
          rw [if_neg c16] at H
          exact absurd H (by simp)
        ·
         rw [if_neg c15] at H
         exact absurd H (by simp)
       ·
        rw [if_neg c14] at H
        have c14b0 : decide (x39_1 < (y466.length : Int)) = false := decide_eq_false c14; (try simp only [hl6_2] at c14b0); (try simp only [hl8_1] at c14b0); clear c14; replace H := Option.bind_eq_some_iff.mp H; obtain ⟨⟨t470, t471, t472⟩, A200, H⟩ := H; replace H : (posternlaw18_PruneAgain.l1 k1 l0 t459 t460 t470 t472 (t460.length : Int) 0) = some r := H; have A20 := Aside0.mk A200; clear A200; have H' := Aside0.mk H; clear H; go_wp2_with (first | ((with_reducible refine gate_callee (f := 8) rfl ?_); refine goesL_ (some 50) rfl rfl Try.func8 (by kernel_rfl) rfl #[.slice A0 l0.length c0, .slice Ao13 x8_1.length co13] rfl (by (try simp only [List.map_toArray, List.map_cons, List.map_nil]); first | done | rfl | (simp only [List.length_drop, List.length_take]; rfl)) ?_; (with_reducible refine (prune_Prune.calls k1 _ _ l0 _ _ x8_1 t470 t471 t472 _ ?side1 ?side2 ?side3 ?side4 A20.out).mono ?_); (case side1 => repeat (first | exact (Kd.C_below HR0.out HB.out) | (with_reducible refine Kd.C_alloc ?_ _) | (with_reducible refine Kd.C_drewN ?_ _) | (with_reducible refine Kd.C_drew ?_))); (case side2 => exact HC0.out); (case side3 => repeat (first | exact (Kd.R_reads' HO_8.out).2.2 | (with_reducible refine Kd.C_alloc ?_ _) | (with_reducible refine Kd.C_drewN ?_ _) | (with_reducible refine Kd.C_drew ?_))); (case side4 => exact (Kd.R_reads' HO_8.out).2.1); rintro e w21 ⟨v473, v475, rfl, ho0, ho1, hb⟩; refine ⟨_, rfl, ?_⟩; have n0_ := Aside0.mk (Kd.R_elder' (mv_ HO_5.out) (Kd.R_base ho0) hb); have n1_ := Aside0.mk (Kd.R_elder' (mv_ HO_6.out) (Kd.R_base ho1) hb); have n2_ := Aside0.mk (Kd.R_elder' (mv_ HO_8.out) (Kd.R_base ho1) hb); have n3_ := Aside0.mk (Kd.R_lower (Kd.R_new' ho0 (Kd.R_lt (mv_ HO_5.out))) (below_size (bl_ HB.out))); have n4_ := Aside0.mk (Kd.R_lower (Kd.R_new' (Kd.R_new' ho1 (Kd.R_lt (mv_ HO_6.out))) (Kd.R_lt (mv_ HO_8.out))) (below_size (bl_ HB.out))); have n5_ := Aside0.mk (below_step (bl_ HB.out) hb); clear HO_5; clear HO_6; clear HO_8; clear HB; have HO_5 := n0_; have HO_6 := n1_; have HO_8 := n2_; have HO474 := n3_; have HO476 := n4_; have HB := n5_; clear n0_ n1_ n2_ n3_ n4_ n5_; (try clear hb); (try clear hb2); (try clear hk); (try clear hi); (try clear ho0); (try clear ho1); obtain ⟨Ao22, co22, eo22⟩ := Kd.R_slice HO_6.out; subst eo22))
        go_loopg [56] k1 (fun kq v56 w' => ∃ (x6_2 : List (S34)) (x56_2 : Int), v56 = .int .i64 x56_2 ∧ Aside0 (posternlaw18_PruneAgain.l1 kq l0 t459 x6_2 t470 t472 (t460.length : Int) x56_2 = some r) ∧ Aside0 (kq ≤ k1) ∧ Aside0 (Kd.R k43 43 w' w.heap.size (fun k_ => some k_ ≠ (v473 : Value).ownBlock) v462 t459) ∧ Aside0 (Kd.R k34 34 w' w.heap.size (fun _ => True) (.slice Ao22 t460.length co22) x6_2) ∧ Aside0 (Kd.R k43 43 w' w.heap.size (fun k_ => some k_ ≠ (v462 : Value).ownBlock) v473 t470) ∧ Aside0 (Below w.heap.size w w'))
        case atStart => exact ⟨(t460), (0), eq_, H', ⟨Nat.le_refl _⟩, ⟨by (try simp only [hl8_1]); (with_reducible repeat (first | apply Kd.R_alloc | apply Kd.R_drewN | apply Kd.R_drew)); exact Kd.R_mono HO_5.out (fun _ hk => hk.2)⟩, ⟨by (try simp only [hl8_1]); (with_reducible repeat (first | apply Kd.R_alloc | apply Kd.R_drewN | apply Kd.R_drew)); exact Kd.R_mono HO_6.out (fun _ hk => trivial)⟩, ⟨by (try simp only [hl8_1]); (with_reducible repeat (first | apply Kd.R_alloc | apply Kd.R_drewN | apply Kd.R_drew)); exact Kd.R_mono HO474.out (fun _ hk => hk.2)⟩, ⟨by repeat (first | (with_reducible first | exact HB.out | apply below_alloc | apply pw_below_drewN | apply below_drew1) | exact HB.out)⟩⟩
        case round =>
         clear H'; (try clear c1); (try clear p1); (try clear q1); (try clear hx1); (try clear p2); (try clear c4); (try clear c6); (try clear c6b0); (try clear c6b1); (try clear p6); (try clear c7); (try clear c7b0); (try clear c7b1); (try clear c8); (try clear c8b0); (try clear c8b1); (try clear c14); (try clear c14b0); (try clear c15); (try clear c15b0); (try clear c16); (try clear c16b0); (try clear c17); (try clear p17); (try clear q17); (try clear hx17); (try clear hf17); (try clear c18); (try clear hx18); (try clear hf18); (try clear hx17_0); (try clear hx17_1); (try clear hx17_2); (try clear hx18_0); obtain ⟨x6_2, x56_2, rfl, HA, HK2, HO_5, HO_6, HO_10, HB⟩ := hrel; have hl6_2 := (Kd.R_reads' HO_6.out).1; rw [hl6_2] at HO_6; (try simp only [hl6_2]); (try simp only [hl6_2] at HO_5); (try simp only [hl6_2] at HO_10)
         cases gk with
         | zero => exact absurd HA.out (by simp [posternlaw18_PruneAgain.l1])
         | succ k2 =>
          have H := HA.out; clear HA; simp only [posternlaw18_PruneAgain.l1] at H
          by_cases c23 : x56_2 < (t460.length : Int)
          ·
           rw [if_pos c23] at H
           have c23b0 : decide (x56_2 < (t460.length : Int)) = true := decide_eq_true c23; clear c23
           by_cases c24 : 0 ≤ x56_2
           ·
            rw [if_pos c24] at H
            have c24b0 : decide (0 ≤ x56_2) = true := decide_eq_true c24; clear c24
            by_cases c25 : x56_2 < (x6_2.length : Int)
            ·
             rw [if_pos c25] at H
             have c25b0 : decide (x56_2 < (x6_2.length : Int)) = true := decide_eq_true c25; clear c25; obtain ⟨y477, hy477⟩ : ∃ y_ : List (S34), y_ = (x6_2.set (x56_2 : Int).toNat (⟨true, (rd_T34 x6_2 x56_2).f1, (rd_T34 x6_2 x56_2).f2⟩ : S34)) := ⟨_, rfl⟩; replace H : (posternlaw18_PruneAgain.l1 k2 l0 t459 y477 t470 t472 (t460.length : Int) (wrap64 (x56_2 + 1))) = some r := by first | (rw [hy477]; with_reducible exact H) | (have H2_ := (Option.bind_some _ _).symm.trans H; rw [hy477]; with_reducible exact H2_) | (have H2_ := (Option.bind_some _ _).symm.trans H; with_reducible exact H2_) | with_reducible exact H | (rw [hy477]; exact H) | exact H
             have Ny477 := Aside0.mk hy477; clear hy477; have H' := Aside0.mk H; clear H; have p26 : 0 ≤ (x56_2 : Int) := of_decide_eq_true (by first | (with_reducible assumption) | assumption); have q26 : (x56_2 : Int) < ((x6_2.length : Int) : Int) := of_decide_eq_true (by first | (with_reducible assumption) | assumption); obtain ⟨go26, co26, eo26, gb26, gl26, cl26, HG26⟩ := Kd.R_form HO_6.out (by omega); (first | cases eo26 | (injection eo26 with ea_ en_ ec_; (first | subst ea_ | (injection ea_ with ea_; subst ea_)); subst ec_; clear en_)); have GB26 := Aside0.mk gb26; have GG26 := Aside0.mk HG26; clear gb26 gl26 HG26; obtain ⟨ce26, hcl26, hM26, hcc26, hfr26⟩ := Kd.R_elem HO_6.out z34 (x56_2 : Int) p26 q26; obtain rfl := k34_openM hM26; have hx26_0 : wr.cell? ⟨go26, (x56_2 : Int).toNat * 3, none⟩ = some (.bool ((rd_T34 x6_2 x56_2).f0)) := hcc26 0 _ rfl; have hx26_1 : wr.cell? ⟨go26, (x56_2 : Int).toNat * 3 + 1, none⟩ = some (.bool ((rd_T34 x6_2 x56_2).f1)) := hcc26 1 _ rfl; have hx26_2 : wr.cell? ⟨go26, (x56_2 : Int).toNat * 3 + 2, none⟩ = some (.int .i64 ((rd_T34 x6_2 x56_2).f2)) := hcc26 2 _ rfl; have hf26_0 : wr.frozen? ⟨go26, (x56_2 : Int).toNat * 3, none⟩ = false := hfr26 0; have hf26_1 : wr.frozen? ⟨go26, (x56_2 : Int).toNat * 3 + 1, none⟩ = false := hfr26 1; have hf26_2 : wr.frozen? ⟨go26, (x56_2 : Int).toNat * 3 + 2, none⟩ = false := hfr26 2; clear hcl26 hcc26 hfr26 hM26; replace p26 := eq_true p26; replace q26 := eq_true q26; have HX27 := Aside0.mk (show Kd.R k34 34 wr w.heap.size (fun _ => True) (.slice (some ⟨go26, 0, none⟩) x6_2.length co22) x6_2 from (mv_ HO_6.out)); obtain ⟨ce27, hcl27, hM27, hcc27, hfr27⟩ := Kd.R_elem HX27.out z34 (x56_2 : Int) (of_decide_eq_true (by first | (with_reducible assumption) | assumption)) (by have h_ : (x56_2 : Int) < ((x6_2.length : Int) : Int) := of_decide_eq_true (by first | (with_reducible assumption) | assumption); first | exact h_ | (have e_ := (Kd.R_reads' HO_6.out).1; omega) | simpa using h_); obtain rfl := k34_openM hM27; have HP27 := Kd.R_seg HX27.out (x56_2 : Int) (of_decide_eq_true (by first | (with_reducible assumption) | assumption)) (by have h_ : (x56_2 : Int) < ((x6_2.length : Int) : Int) := of_decide_eq_true (by first | (with_reducible assumption) | assumption); first | exact h_ | (have e_ := (Kd.R_reads' HO_6.out).1; omega) | simpa using h_) (seg := [.bool true]) (j := 0) hcl27 hcc27 (show 1 ≤ 3 from by decide) (x' := (⟨true, (rd_T34 x6_2 x56_2).f1, (rd_T34 x6_2 x56_2).f2⟩ : S34)) (k34_mkM _ _ _ (⟨true, (rd_T34 x6_2 x56_2).f1, (rd_T34 x6_2 x56_2).f2⟩ : S34) ) (fun _ hk => hk); have hx27_0 := hcc27 0 _ rfl; (try simp only [show (k34).sz = 3 from rfl, Nat.mul_one, Nat.add_zero] at hx27_0); have hf27_0 := hfr27 0; (try simp only [show (k34).sz = 3 from rfl, Nat.mul_one, Nat.add_zero] at hf27_0); clear hcl27 hcc27 hfr27 hM27; go_wp2_with (first | ((with_reducible refine gate_store (t := 4) (p := 62) rfl ?_); refine store_event (t := 4) (p := 62) (v := ?vo_w28) (w1 := (wr.setCell ⟨go26, (x56_2 : Int).toNat * 3, none⟩ (.bool true))) ?hg ?ho ?hn ?hr ?_; (case ho => rfl); (case hg => rfl); (case hn => rfl); (case hr => first | (go_simp; done) | (go_simp; rfl)); intro w28 hw; have hg : wr.grownBy w28 (some go26) := (by rw [hw]; exact HP27.2); have hp_ : Kd.R k34 34 w28 w.heap.size (fun _ => True) (.slice (some ⟨go26, 0, none⟩) x6_2.length co22) y477 := (by rw [hw, Ny477.out]; exact HP27.1); clear HP27; have n0_ := Aside0.mk (Kd.R_over' (v := (.slice (some ⟨go26, 0, none⟩) x6_2.length co22)) (mv_ HO_5.out) (Kd.R_typed HO_6.out) (by decide) hg); have n1_ := Aside0.mk (hp_); have n2_ := Aside0.mk (Kd.R_over' (v := (.slice (some ⟨go26, 0, none⟩) x6_2.length co22)) (mv_ HO_10.out) (Kd.R_typed HO_6.out) (by decide) hg); have n3_ := Aside0.mk ((by rw [hw]; exact below_set (HB.out) GB26.out : Below w.heap.size w w28)); clear HO_5; clear HO_6; clear HO_10; clear HB; have HO_5 := n0_; have HO_6 := n1_; have HO_10 := n2_; have HB := n3_; clear n0_ n1_ n2_ n3_; clear hg hw hp_))
             (try simp only [← hl6_2]); go_roundg k2
             case measure => have := HK1.out; have := HK2.out; omega
             case rel => exact ⟨(y477), (wrap64 (x56_2 + 1)), eq_, H', ⟨by have := HK1.out; have := HK2.out; omega⟩, ⟨by (try simp only [hl8_1]); (try simp only [hl6_2]); (with_reducible repeat (first | apply Kd.R_alloc | apply Kd.R_drewN | apply Kd.R_drew)); exact HO_5.out⟩, ⟨by (try simp only [hl8_1]); (try simp only [hl6_2]); (with_reducible repeat (first | apply Kd.R_alloc | apply Kd.R_drewN | apply Kd.R_drew)); exact HO_6.out⟩, ⟨by (try simp only [hl8_1]); (try simp only [hl6_2]); (with_reducible repeat (first | apply Kd.R_alloc | apply Kd.R_drewN | apply Kd.R_drew)); exact HO_10.out⟩, ⟨by repeat (first | (with_reducible first | exact HB.out | apply below_alloc | apply pw_below_drewN | apply below_drew1) | exact HB.out)⟩⟩
            ·
             rw [if_neg c25] at H
             exact absurd H (by simp)
           ·
            rw [if_neg c24] at H
            exact absurd H (by simp)
          ·
           rw [if_neg c23] at H
           have c23b0 : decide (x56_2 < (t460.length : Int)) = false := decide_eq_false c23; (try simp only [hl6_2] at c23b0); (try simp only [hl8_1] at c23b0); clear c23; replace H := Option.bind_eq_some_iff.mp H; obtain ⟨⟨t478, t479, t480⟩, A290, H⟩ := H; replace H : (if t472 = 0 then (if t480 = 0 then ((posternref18_SameInsts.f k2 t470 l0).bind fun t485 => (if t485 = true then ((posternref18_SameInsts.f k2 t478 t459).bind fun t486 => (if t486 = true then (some ((t479.length : Int) == (x6_2.length : Int))) else (some false))) else (some false))) else (some false)) else (some false)) = some r := H; have A29 := Aside0.mk A290; clear A290
           by_cases c30 : t472 = 0
           ·
            rw [if_pos c30] at H
            have c30b0 : (t472 == 0) = true := beq_iff_eq.mpr c30; have c30b1 : (t472 != 0) = false := bne_eq_false_iff_eq.mpr c30; clear c30
            by_cases c31 : t480 = 0
            ·
             rw [if_pos c31] at H
             have c31b0 : (t480 == 0) = true := beq_iff_eq.mpr c31; have c31b1 : (t480 != 0) = false := bne_eq_false_iff_eq.mpr c31; clear c31; replace H := Option.bind_eq_some_iff.mp H; obtain ⟨t485, A320, H⟩ := H; replace H : (if t485 = true then ((posternref18_SameInsts.f k2 t478 t459).bind fun t486 => (if t486 = true then (some ((t479.length : Int) == (x6_2.length : Int))) else (some false))) else (some false)) = some r := H; have A32 := Aside0.mk A320; clear A320
             by_cases c33 : t485 = true
             ·
              subst c33
              have H1 : ((posternref18_SameInsts.f k2 t478 t459).bind fun t486 => (if t486 = true then (some ((t479.length : Int) == (x6_2.length : Int))) else (some false))) = some r := by rw [if_pos rfl] at H; exact H
              clear H; have H := H1; clear H1; replace H := Option.bind_eq_some_iff.mp H; obtain ⟨t486, A340, H⟩ := H; replace H : (if t486 = true then (some ((t479.length : Int) == (x6_2.length : Int))) else (some false)) = some r := H; have A34 := Aside0.mk A340; clear A340
              by_cases c35 : t486 = true
              ·
               subst c35
               have H1 : (some ((t479.length : Int) == (x6_2.length : Int))) = some r := by rw [if_pos rfl] at H; exact H
               clear H; have H := H1; clear H1; obtain rfl := Option.some.inj H; obtain ⟨Ao36, co36, eo36⟩ := Kd.R_slice HO_5.out; subst eo36; go_wp2_with (first | ((with_reducible refine gate_callee (f := 8) rfl ?_); refine goesL_ (some 67) rfl rfl Try.func8 (by kernel_rfl) rfl #[.slice Ao36 t459.length co36, .slice Ao22 x6_2.length co22] rfl (by (try simp only [List.map_toArray, List.map_cons, List.map_nil]); first | done | rfl | (simp only [List.length_drop, List.length_take]; rfl)) ?_; (with_reducible refine (prune_Prune.calls k2 _ _ t459 _ _ x6_2 t478 t479 t480 _ ?side1 ?side2 ?side3 ?side4 A29.out).mono ?_); (case side1 => repeat (first | exact (Kd.R_reads' HO_5.out).2.2 | (with_reducible refine Kd.C_alloc ?_ _) | (with_reducible refine Kd.C_drewN ?_ _) | (with_reducible refine Kd.C_drew ?_))); (case side2 => exact (Kd.R_reads' HO_5.out).2.1); (case side3 => repeat (first | exact (Kd.R_reads' HO_6.out).2.2 | (with_reducible refine Kd.C_alloc ?_ _) | (with_reducible refine Kd.C_drewN ?_ _) | (with_reducible refine Kd.C_drew ?_))); (case side4 => exact (Kd.R_reads' HO_6.out).2.1); rintro e w37 ⟨v481, v483, rfl, ho0, ho1, hb⟩; refine ⟨_, rfl, ?_⟩; have n0_ := Aside0.mk (Kd.R_elder' (mv_ HO_5.out) (Kd.R_base ho0) hb); have n1_ := Aside0.mk (Kd.R_elder' (mv_ HO_6.out) (Kd.R_base ho1) hb); have n2_ := Aside0.mk (Kd.R_elder' (mv_ HO_10.out) (Kd.R_base ho0) hb); have n3_ := Aside0.mk (Kd.R_lower (Kd.R_new' (Kd.R_new' ho0 (Kd.R_lt (mv_ HO_5.out))) (Kd.R_lt (mv_ HO_10.out))) (below_size (bl_ HB.out))); have n4_ := Aside0.mk (Kd.R_lower (Kd.R_new' ho1 (Kd.R_lt (mv_ HO_6.out))) (below_size (bl_ HB.out))); have n5_ := Aside0.mk (below_step (bl_ HB.out) hb); clear HO_5; clear HO_6; clear HO_10; clear HB; have HO_5 := n0_; have HO_6 := n1_; have HO_10 := n2_; have HO482 := n3_; have HO484 := n4_; have HB := n5_; clear n0_ n1_ n2_ n3_ n4_ n5_; (try clear hb); (try clear hb2); (try clear hk); (try clear hi); (try clear ho0); (try clear ho1); obtain ⟨Ao38, co38, eo38⟩ := Kd.R_slice HO_10.out; subst eo38) | (go_at_call 10; (with_reducible refine (posternref18_SameInsts.calls k2 _ _ t470 _ _ l0 true _ ?side1 ?side2 ?side3 ?side4 A32.out).mono ?_); (case side1 => repeat (first | exact (Kd.R_reads' HO_10.out).2.2 | (with_reducible refine Kd.C_alloc ?_ _) | (with_reducible refine Kd.C_drewN ?_ _) | (with_reducible refine Kd.C_drew ?_))); (case side2 => exact (Kd.R_reads' HO_10.out).2.1); (case side3 => repeat (first | exact (Kd.C_below HR0.out HB.out) | (with_reducible refine Kd.C_alloc ?_ _) | (with_reducible refine Kd.C_drewN ?_ _) | (with_reducible refine Kd.C_drew ?_))); (case side4 => exact HC0.out); rintro e w' ⟨rfl, ⟨nd, rfl⟩⟩; obtain ⟨Ao39, co39, eo39⟩ := Kd.R_slice HO482.out; subst eo39) | (go_at_call 10; (with_reducible refine (posternref18_SameInsts.calls k2 _ _ t478 _ _ t459 true _ ?side1 ?side2 ?side3 ?side4 A34.out).mono ?_); (case side1 => repeat (first | exact (Kd.R_reads' HO482.out).2.2 | (with_reducible refine Kd.C_alloc ?_ _) | (with_reducible refine Kd.C_drewN ?_ _) | (with_reducible refine Kd.C_drew ?_))); (case side2 => exact (Kd.R_reads' HO482.out).2.1); (case side3 => repeat (first | exact (Kd.R_reads' HO_5.out).2.2 | (with_reducible refine Kd.C_alloc ?_ _) | (with_reducible refine Kd.C_drewN ?_ _) | (with_reducible refine Kd.C_drew ?_))); (case side4 => exact (Kd.R_reads' HO_5.out).2.1); rintro e w' ⟨rfl, ⟨nd, rfl⟩⟩; obtain ⟨Ao40, co40, eo40⟩ := Kd.R_slice HO484.out; subst eo40))
               go_ret
               exact ⟨by first | rfl | (simp [errW_none, errW_some] <;> rfl) | (simp [*, errW_none, errW_some] <;> rfl), by repeat (first | (with_reducible first | exact HB.out | apply below_alloc | apply pw_below_drewN | apply below_drew1) | exact HB.out)⟩
              ·
               replace c35 := Bool.eq_false_iff.mpr c35
               subst c35; have H1 : (some false) = some r := by rw [if_neg (show ¬ (false = true) by decide)] at H; exact H
               clear H; have H := H1; clear H1; obtain rfl := Option.some.inj H; obtain ⟨Ao41, co41, eo41⟩ := Kd.R_slice HO_5.out; subst eo41; go_wp2_with (first | ((with_reducible refine gate_callee (f := 8) rfl ?_); refine goesL_ (some 67) rfl rfl Try.func8 (by kernel_rfl) rfl #[.slice Ao41 t459.length co41, .slice Ao22 x6_2.length co22] rfl (by (try simp only [List.map_toArray, List.map_cons, List.map_nil]); first | done | rfl | (simp only [List.length_drop, List.length_take]; rfl)) ?_; (with_reducible refine (prune_Prune.calls k2 _ _ t459 _ _ x6_2 t478 t479 t480 _ ?side1 ?side2 ?side3 ?side4 A29.out).mono ?_); (case side1 => repeat (first | exact (Kd.R_reads' HO_5.out).2.2 | (with_reducible refine Kd.C_alloc ?_ _) | (with_reducible refine Kd.C_drewN ?_ _) | (with_reducible refine Kd.C_drew ?_))); (case side2 => exact (Kd.R_reads' HO_5.out).2.1); (case side3 => repeat (first | exact (Kd.R_reads' HO_6.out).2.2 | (with_reducible refine Kd.C_alloc ?_ _) | (with_reducible refine Kd.C_drewN ?_ _) | (with_reducible refine Kd.C_drew ?_))); (case side4 => exact (Kd.R_reads' HO_6.out).2.1); rintro e w42 ⟨v481, v483, rfl, ho0, ho1, hb⟩; refine ⟨_, rfl, ?_⟩; have n0_ := Aside0.mk (Kd.R_elder' (mv_ HO_5.out) (Kd.R_base ho0) hb); have n1_ := Aside0.mk (Kd.R_elder' (mv_ HO_6.out) (Kd.R_base ho1) hb); have n2_ := Aside0.mk (Kd.R_elder' (mv_ HO_10.out) (Kd.R_base ho0) hb); have n3_ := Aside0.mk (Kd.R_lower (Kd.R_new' (Kd.R_new' ho0 (Kd.R_lt (mv_ HO_5.out))) (Kd.R_lt (mv_ HO_10.out))) (below_size (bl_ HB.out))); have n4_ := Aside0.mk (Kd.R_lower (Kd.R_new' ho1 (Kd.R_lt (mv_ HO_6.out))) (below_size (bl_ HB.out))); have n5_ := Aside0.mk (below_step (bl_ HB.out) hb); clear HO_5; clear HO_6; clear HO_10; clear HB; have HO_5 := n0_; have HO_6 := n1_; have HO_10 := n2_; have HO482 := n3_; have HO484 := n4_; have HB := n5_; clear n0_ n1_ n2_ n3_ n4_ n5_; (try clear hb); (try clear hb2); (try clear hk); (try clear hi); (try clear ho0); (try clear ho1); obtain ⟨Ao43, co43, eo43⟩ := Kd.R_slice HO_10.out; subst eo43) | (go_at_call 10; (with_reducible refine (posternref18_SameInsts.calls k2 _ _ t470 _ _ l0 true _ ?side1 ?side2 ?side3 ?side4 A32.out).mono ?_); (case side1 => repeat (first | exact (Kd.R_reads' HO_10.out).2.2 | (with_reducible refine Kd.C_alloc ?_ _) | (with_reducible refine Kd.C_drewN ?_ _) | (with_reducible refine Kd.C_drew ?_))); (case side2 => exact (Kd.R_reads' HO_10.out).2.1); (case side3 => repeat (first | exact (Kd.C_below HR0.out HB.out) | (with_reducible refine Kd.C_alloc ?_ _) | (with_reducible refine Kd.C_drewN ?_ _) | (with_reducible refine Kd.C_drew ?_))); (case side4 => exact HC0.out); rintro e w' ⟨rfl, ⟨nd, rfl⟩⟩; obtain ⟨Ao44, co44, eo44⟩ := Kd.R_slice HO482.out; subst eo44) | (go_at_call 10; (with_reducible refine (posternref18_SameInsts.calls k2 _ _ t478 _ _ t459 false _ ?side1 ?side2 ?side3 ?side4 A34.out).mono ?_); (case side1 => repeat (first | exact (Kd.R_reads' HO482.out).2.2 | (with_reducible refine Kd.C_alloc ?_ _) | (with_reducible refine Kd.C_drewN ?_ _) | (with_reducible refine Kd.C_drew ?_))); (case side2 => exact (Kd.R_reads' HO482.out).2.1); (case side3 => repeat (first | exact (Kd.R_reads' HO_5.out).2.2 | (with_reducible refine Kd.C_alloc ?_ _) | (with_reducible refine Kd.C_drewN ?_ _) | (with_reducible refine Kd.C_drew ?_))); (case side4 => exact (Kd.R_reads' HO_5.out).2.1); rintro e w' ⟨rfl, ⟨nd, rfl⟩⟩))
               go_ret
               exact ⟨by first | rfl | (simp [errW_none, errW_some] <;> rfl) | (simp [*, errW_none, errW_some] <;> rfl), by repeat (first | (with_reducible first | exact HB.out | apply below_alloc | apply pw_below_drewN | apply below_drew1) | exact HB.out)⟩
             ·
              replace c33 := Bool.eq_false_iff.mpr c33
              subst c33; have H1 : (some false) = some r := by rw [if_neg (show ¬ (false = true) by decide)] at H; exact H
              clear H; have H := H1; clear H1; obtain rfl := Option.some.inj H; obtain ⟨Ao45, co45, eo45⟩ := Kd.R_slice HO_5.out; subst eo45; go_wp2_with (first | ((with_reducible refine gate_callee (f := 8) rfl ?_); refine goesL_ (some 67) rfl rfl Try.func8 (by kernel_rfl) rfl #[.slice Ao45 t459.length co45, .slice Ao22 x6_2.length co22] rfl (by (try simp only [List.map_toArray, List.map_cons, List.map_nil]); first | done | rfl | (simp only [List.length_drop, List.length_take]; rfl)) ?_; (with_reducible refine (prune_Prune.calls k2 _ _ t459 _ _ x6_2 t478 t479 t480 _ ?side1 ?side2 ?side3 ?side4 A29.out).mono ?_); (case side1 => repeat (first | exact (Kd.R_reads' HO_5.out).2.2 | (with_reducible refine Kd.C_alloc ?_ _) | (with_reducible refine Kd.C_drewN ?_ _) | (with_reducible refine Kd.C_drew ?_))); (case side2 => exact (Kd.R_reads' HO_5.out).2.1); (case side3 => repeat (first | exact (Kd.R_reads' HO_6.out).2.2 | (with_reducible refine Kd.C_alloc ?_ _) | (with_reducible refine Kd.C_drewN ?_ _) | (with_reducible refine Kd.C_drew ?_))); (case side4 => exact (Kd.R_reads' HO_6.out).2.1); rintro e w46 ⟨v481, v483, rfl, ho0, ho1, hb⟩; refine ⟨_, rfl, ?_⟩; have n0_ := Aside0.mk (Kd.R_elder' (mv_ HO_5.out) (Kd.R_base ho0) hb); have n1_ := Aside0.mk (Kd.R_elder' (mv_ HO_6.out) (Kd.R_base ho1) hb); have n2_ := Aside0.mk (Kd.R_elder' (mv_ HO_10.out) (Kd.R_base ho0) hb); have n3_ := Aside0.mk (Kd.R_lower (Kd.R_new' (Kd.R_new' ho0 (Kd.R_lt (mv_ HO_5.out))) (Kd.R_lt (mv_ HO_10.out))) (below_size (bl_ HB.out))); have n4_ := Aside0.mk (Kd.R_lower (Kd.R_new' ho1 (Kd.R_lt (mv_ HO_6.out))) (below_size (bl_ HB.out))); have n5_ := Aside0.mk (below_step (bl_ HB.out) hb); clear HO_5; clear HO_6; clear HO_10; clear HB; have HO_5 := n0_; have HO_6 := n1_; have HO_10 := n2_; have HO482 := n3_; have HO484 := n4_; have HB := n5_; clear n0_ n1_ n2_ n3_ n4_ n5_; (try clear hb); (try clear hb2); (try clear hk); (try clear hi); (try clear ho0); (try clear ho1); obtain ⟨Ao47, co47, eo47⟩ := Kd.R_slice HO_10.out; subst eo47) | (go_at_call 10; (with_reducible refine (posternref18_SameInsts.calls k2 _ _ t470 _ _ l0 false _ ?side1 ?side2 ?side3 ?side4 A32.out).mono ?_); (case side1 => repeat (first | exact (Kd.R_reads' HO_10.out).2.2 | (with_reducible refine Kd.C_alloc ?_ _) | (with_reducible refine Kd.C_drewN ?_ _) | (with_reducible refine Kd.C_drew ?_))); (case side2 => exact (Kd.R_reads' HO_10.out).2.1); (case side3 => repeat (first | exact (Kd.C_below HR0.out HB.out) | (with_reducible refine Kd.C_alloc ?_ _) | (with_reducible refine Kd.C_drewN ?_ _) | (with_reducible refine Kd.C_drew ?_))); (case side4 => exact HC0.out); rintro e w' ⟨rfl, ⟨nd, rfl⟩⟩))
              go_ret
              exact ⟨by first | rfl | (simp [errW_none, errW_some] <;> rfl) | (simp [*, errW_none, errW_some] <;> rfl), by repeat (first | (with_reducible first | exact HB.out | apply below_alloc | apply pw_below_drewN | apply below_drew1) | exact HB.out)⟩
            ·
             rw [if_neg c31] at H
             have c31b0 : (t480 == 0) = false := beq_eq_false_iff_ne.mpr c31; have c31b1 : (t480 != 0) = true := bne_iff_ne.mpr c31; obtain rfl := Option.some.inj H; obtain ⟨Ao48, co48, eo48⟩ := Kd.R_slice HO_5.out; subst eo48; go_wp2_with (first | ((with_reducible refine gate_callee (f := 8) rfl ?_); refine goesL_ (some 67) rfl rfl Try.func8 (by kernel_rfl) rfl #[.slice Ao48 t459.length co48, .slice Ao22 x6_2.length co22] rfl (by (try simp only [List.map_toArray, List.map_cons, List.map_nil]); first | done | rfl | (simp only [List.length_drop, List.length_take]; rfl)) ?_; (with_reducible refine (prune_Prune.calls k2 _ _ t459 _ _ x6_2 t478 t479 t480 _ ?side1 ?side2 ?side3 ?side4 A29.out).mono ?_); (case side1 => repeat (first | exact (Kd.R_reads' HO_5.out).2.2 | (with_reducible refine Kd.C_alloc ?_ _) | (with_reducible refine Kd.C_drewN ?_ _) | (with_reducible refine Kd.C_drew ?_))); (case side2 => exact (Kd.R_reads' HO_5.out).2.1); (case side3 => repeat (first | exact (Kd.R_reads' HO_6.out).2.2 | (with_reducible refine Kd.C_alloc ?_ _) | (with_reducible refine Kd.C_drewN ?_ _) | (with_reducible refine Kd.C_drew ?_))); (case side4 => exact (Kd.R_reads' HO_6.out).2.1); rintro e w49 ⟨v481, v483, rfl, ho0, ho1, hb⟩; refine ⟨_, rfl, ?_⟩; have n0_ := Aside0.mk (Kd.R_elder' (mv_ HO_5.out) (Kd.R_base ho0) hb); have n1_ := Aside0.mk (Kd.R_elder' (mv_ HO_6.out) (Kd.R_base ho1) hb); have n2_ := Aside0.mk (Kd.R_elder' (mv_ HO_10.out) (Kd.R_base ho0) hb); have n3_ := Aside0.mk (Kd.R_lower (Kd.R_new' (Kd.R_new' ho0 (Kd.R_lt (mv_ HO_5.out))) (Kd.R_lt (mv_ HO_10.out))) (below_size (bl_ HB.out))); have n4_ := Aside0.mk (Kd.R_lower (Kd.R_new' ho1 (Kd.R_lt (mv_ HO_6.out))) (below_size (bl_ HB.out))); have n5_ := Aside0.mk (below_step (bl_ HB.out) hb); clear HO_5; clear HO_6; clear HO_10; clear HB; have HO_5 := n0_; have HO_6 := n1_; have HO_10 := n2_; have HO482 := n3_; have HO484 := n4_; have HB := n5_; clear n0_ n1_ n2_ n3_ n4_ n5_; (try clear hb); (try clear hb2); (try clear hk); (try clear hi); (try clear ho0); (try clear ho1)))
             go_ret
             exact ⟨by first | rfl | (simp [errW_none, errW_some] <;> rfl) | (simp [*, errW_none, errW_some] <;> rfl), by repeat (first | (with_reducible first | exact HB.out | apply below_alloc | apply pw_below_drewN | apply below_drew1) | exact HB.out)⟩
           ·
            rw [if_neg c30] at H
            have c30b0 : (t472 == 0) = false := beq_eq_false_iff_ne.mpr c30; have c30b1 : (t472 != 0) = true := bne_iff_ne.mpr c30; obtain rfl := Option.some.inj H; obtain ⟨Ao50, co50, eo50⟩ := Kd.R_slice HO_5.out; subst eo50; go_wp2_with (first | ((with_reducible refine gate_callee (f := 8) rfl ?_); refine goesL_ (some 67) rfl rfl Try.func8 (by kernel_rfl) rfl #[.slice Ao50 t459.length co50, .slice Ao22 x6_2.length co22] rfl (by (try simp only [List.map_toArray, List.map_cons, List.map_nil]); first | done | rfl | (simp only [List.length_drop, List.length_take]; rfl)) ?_; (with_reducible refine (prune_Prune.calls k2 _ _ t459 _ _ x6_2 t478 t479 t480 _ ?side1 ?side2 ?side3 ?side4 A29.out).mono ?_); (case side1 => repeat (first | exact (Kd.R_reads' HO_5.out).2.2 | (with_reducible refine Kd.C_alloc ?_ _) | (with_reducible refine Kd.C_drewN ?_ _) | (with_reducible refine Kd.C_drew ?_))); (case side2 => exact (Kd.R_reads' HO_5.out).2.1); (case side3 => repeat (first | exact (Kd.R_reads' HO_6.out).2.2 | (with_reducible refine Kd.C_alloc ?_ _) | (with_reducible refine Kd.C_drewN ?_ _) | (with_reducible refine Kd.C_drew ?_))); (case side4 => exact (Kd.R_reads' HO_6.out).2.1); rintro e w51 ⟨v481, v483, rfl, ho0, ho1, hb⟩; refine ⟨_, rfl, ?_⟩; have n0_ := Aside0.mk (Kd.R_elder' (mv_ HO_5.out) (Kd.R_base ho0) hb); have n1_ := Aside0.mk (Kd.R_elder' (mv_ HO_6.out) (Kd.R_base ho1) hb); have n2_ := Aside0.mk (Kd.R_elder' (mv_ HO_10.out) (Kd.R_base ho0) hb); have n3_ := Aside0.mk (Kd.R_lower (Kd.R_new' (Kd.R_new' ho0 (Kd.R_lt (mv_ HO_5.out))) (Kd.R_lt (mv_ HO_10.out))) (below_size (bl_ HB.out))); have n4_ := Aside0.mk (Kd.R_lower (Kd.R_new' ho1 (Kd.R_lt (mv_ HO_6.out))) (below_size (bl_ HB.out))); have n5_ := Aside0.mk (below_step (bl_ HB.out) hb); clear HO_5; clear HO_6; clear HO_10; clear HB; have HO_5 := n0_; have HO_6 := n1_; have HO_10 := n2_; have HO482 := n3_; have HO484 := n4_; have HB := n5_; clear n0_ n1_ n2_ n3_ n4_ n5_; (try clear hb); (try clear hb2); (try clear hk); (try clear hi); (try clear ho0); (try clear ho1)))
            go_ret
            exact ⟨by first | rfl | (simp [errW_none, errW_some] <;> rfl) | (simp [*, errW_none, errW_some] <;> rfl), by repeat (first | (with_reducible first | exact HB.out | apply below_alloc | apply pw_below_drewN | apply below_drew1) | exact HB.out)⟩
    ·
     rw [if_neg c8] at H
     exact absurd H (by simp)
   ·
    rw [if_neg c7] at H
    exact absurd H (by simp)
  ·
   rw [if_neg c6] at H
   have c6b0 : (t461 == 0) = false := beq_eq_false_iff_ne.mpr c6; have c6b1 : (t461 != 0) = true := bne_iff_ne.mpr c6; obtain rfl := Option.some.inj H; go_enter Try.func4, Try.ntmps4
   go_wp2_with (first | ((with_reducible refine gate_callee (f := 7) rfl ?_); refine goesL_ (some 17) rfl rfl Try.func7 (by kernel_rfl) rfl #[] rfl (by (try simp only [List.map_toArray, List.map_cons, List.map_nil]); first | done | rfl | (simp only [List.length_drop, List.length_take]; rfl)) ?_; (with_reducible refine (posternlaw18_first.calls k  true _ A3.out).mono ?_); rintro e w52 ⟨rfl, hb⟩; refine ⟨_, rfl, ?_⟩; have n0_ := Aside0.mk (below_step (bl_ HB.out) hb); clear HB; have HB := n0_; clear n0_; (try clear hb); (try clear hb2); (try clear hk); (try clear hi)) | ((with_reducible refine gate_callee (f := 8) rfl ?_); refine goesL_ (some 22) rfl rfl Try.func8 (by kernel_rfl) rfl #[.slice A0 l0.length c0, .slice A1 l1.length c1] rfl (by (try simp only [List.map_toArray, List.map_cons, List.map_nil]); first | done | rfl | (simp only [List.length_drop, List.length_take]; rfl)) ?_; (with_reducible refine (prune_Prune.calls k _ _ l0 _ _ l1 t459 t460 t461 _ ?side1 ?side2 ?side3 ?side4 A5.out).mono ?_); (case side1 => repeat (first | exact (Kd.C_below HR0.out HB.out) | (with_reducible refine Kd.C_alloc ?_ _) | (with_reducible refine Kd.C_drewN ?_ _) | (with_reducible refine Kd.C_drew ?_))); (case side2 => exact HC0.out); (case side3 => repeat (first | exact (Kd.C_below HR1.out HB.out) | (with_reducible refine Kd.C_alloc ?_ _) | (with_reducible refine Kd.C_drewN ?_ _) | (with_reducible refine Kd.C_drew ?_))); (case side4 => exact HC1.out); rintro e w53 ⟨v462, v464, rfl, ho0, ho1, hb⟩; refine ⟨_, rfl, ?_⟩; have n0_ := Aside0.mk (Kd.R_lower ho0 (below_size (bl_ HB.out))); have n1_ := Aside0.mk (Kd.R_lower ho1 (below_size (bl_ HB.out))); have n2_ := Aside0.mk (below_step (bl_ HB.out) hb); clear HB; have HO463 := n0_; have HO465 := n1_; have HB := n2_; clear n0_ n1_ n2_; (try clear hb); (try clear hb2); (try clear hk); (try clear hi); (try clear ho0); (try clear ho1); obtain ⟨Ao54, co54, eo54⟩ := Kd.R_slice HO463.out; subst eo54; obtain ⟨Ao55, co55, eo55⟩ := Kd.R_slice HO465.out; subst eo55))
   go_ret
   exact ⟨by first | rfl | (simp [errW_none, errW_some] <;> rfl) | (simp [*, errW_none, errW_some] <;> rfl), by repeat (first | (with_reducible first | exact HB.out | apply below_alloc | apply pw_below_drewN | apply below_drew1) | exact HB.out)⟩
 ·
  replace c4 := Bool.eq_false_iff.mpr c4
  subst c4; have H1 : (some false) = some r := by rw [if_neg (show ¬ (false = true) by decide)] at H; exact H
  clear H; have H := H1; clear H1; obtain rfl := Option.some.inj H; go_enter Try.func4, Try.ntmps4
  go_wp2_with (first | ((with_reducible refine gate_callee (f := 7) rfl ?_); refine goesL_ (some 17) rfl rfl Try.func7 (by kernel_rfl) rfl #[] rfl (by (try simp only [List.map_toArray, List.map_cons, List.map_nil]); first | done | rfl | (simp only [List.length_drop, List.length_take]; rfl)) ?_; (with_reducible refine (posternlaw18_first.calls k  false _ A3.out).mono ?_); rintro e w56 ⟨rfl, hb⟩; refine ⟨_, rfl, ?_⟩; have n0_ := Aside0.mk (below_step (bl_ HB.out) hb); clear HB; have HB := n0_; clear n0_; (try clear hb); (try clear hb2); (try clear hk); (try clear hi)))
  go_ret
  exact ⟨by first | rfl | (simp [errW_none, errW_some] <;> rfl) | (simp [*, errW_none, errW_some] <;> rfl), by repeat (first | (with_reducible first | exact HB.out | apply below_alloc | apply pw_below_drewN | apply below_drew1) | exact HB.out)⟩

end Go.Proofs.Ytmijlibnembkaaa.PA
