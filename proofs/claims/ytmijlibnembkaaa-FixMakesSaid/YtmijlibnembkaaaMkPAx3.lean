-- Printed by wip/tools/extprint.py over the kit's printer, with contracts of this session's own. Lean checks it.
import Derived.Test.YtmijlibnembkaaaMkPAx0
import Derived.Test.YtmijlibnembkaaaMkPAx1
import Derived.Test.YtmijlibnembkaaaMkPAx2
namespace Go.Proofs.Ytmijlibnembkaaa.PA
open Go.RowKit Go.Proofs.YtmijlibnembkaaaW.PrintWords Go.Proofs.YtmijlibnembkaaaW.PrintLast Go.Proofs.YtmijlibnembkaaaW.PrintMore
attribute [local go_sem] max2_int min2_int max_two min_two max_three min_three max_four min_four   -- for this text's walks alone
set_option linter.unusedVariables false
set_option maxHeartbeats 8000000
set_option maxRecDepth 100000
set_option linter.unusedSimpArgs false

attribute [local go_sem high] eqA34 eqA43
/-! ### shape_part: function 31 -/
def shape_part.f (l0 : List Int) (x : Int) : Option Int := if l0.length = 0 then none else if 4611686018427387904 ≤ l0.length then none else if l0.Pairwise (· ≤ ·) then some (if l0.contains x = true then (l0.countP (· < x) : Nat) else wrap64 ((l0.countP (· < x) : Nat) - 1)) else none
theorem shape_part.calls (B : Nat) (l0 : List Int) (x r : Int) (w : World) (hbox : ∃ A c, w.cell? ⟨B, 0, none⟩ = some (.slice A l0.length c) ∧ l0.length ≤ c ∧ Kd.C (Kd.int .i64) w A l0.length l0) (h : shape_part.f l0 x = some r) :
  Calls Try.prog 31 #[.int .i64 x, .pointer (some ⟨B, 0, none⟩)] w fun e w' => e = .returned (.int .i64 r) ∧ Drawn0 w w' := by
 by_cases h0 : l0.length = 0
 ·
  simp [shape_part.f, h0] at h
 by_cases h1 : 4611686018427387904 ≤ l0.length
 ·
  simp [shape_part.f, h0, h1] at h
 by_cases h2 : l0.Pairwise (· ≤ ·)
 ·
  simp only [shape_part.f, if_neg h0, if_neg h1, if_pos h2, Option.some.injEq] at h
  obtain ⟨A, c, hx, hl, hC⟩ := hbox; obtain ⟨b, off, rfl, hc⟩ := Go.Proofs.YtmijlibnembkaaaX.C_int_cells hC (by omega); have HS := Aside0.mk h2; have H1 := Aside0.mk (show l0.length < 4611686018427387904 by omega); have HC := Aside0.mk hc; have H := Aside0.mk h; clear h0 h1 h2 hl hC hc h
  by_cases hm : l0.contains x = true
  ·
   go_enter Try.func31, Try.ntmps31
   go_wp2_with (go_at_call 32; refine (Try.slices_BinarySearch_int b off l0.length c l0 x _ (Nat.le_refl _) H1.out HC.out (by rw [List.take_length]; exact HS.out)).mono ?_; rw [List.take_length, hm]; rintro e w' ⟨rfl, ⟨q, rfl⟩⟩)
   go_ret
   have := H.out; rw [if_pos hm] at this; exact ⟨by rw [← this]; rfl, dr_⟩
  ·
   replace hm : l0.contains x = false := by simpa using hm
   go_enter Try.func31, Try.ntmps31
   go_wp2_with (go_at_call 32; refine (Try.slices_BinarySearch_int b off l0.length c l0 x _ (Nat.le_refl _) H1.out HC.out (by rw [List.take_length]; exact HS.out)).mono ?_; rw [List.take_length, hm]; rintro e w' ⟨rfl, ⟨q, rfl⟩⟩)
   go_ret
   have := H.out; rw [hm, if_neg (by decide)] at this; exact ⟨by rw [← this]; rfl, dr_⟩
 ·
  simp [shape_part.f, h0, h1, h2] at h

/-! ### posternref18_SameInsts: function 10 -/
def posternref18_SameInsts.l0 : Nat → List (S43) → List (S43) → Int → Int → Option (Bool)
 | 0, _, _, _, _ => none
 | k + 1, x0, x1, x12, x13 => if x13 < x12 then (if 0 ≤ x13 then (if x13 < (x0.length : Int) then (if x13 < (x1.length : Int) then (if (!(((rd_T43 x0 x13).f0) == ((rd_T43 x1 x13).f0)) || (!(((rd_T43 x0 x13).f1) == ((rd_T43 x1 x13).f1)) || (!(((rd_T43 x0 x13).f2) == ((rd_T43 x1 x13).f2)) || (!(((rd_T43 x0 x13).f3) == ((rd_T43 x1 x13).f3)) || (!(((rd_T43 x0 x13).f4) == ((rd_T43 x1 x13).f4))))))) = true then (some false) else (posternref18_SameInsts.l0 k x0 x1 x12 (wrap64 (x13 + 1)))) else (none)) else (none)) else (none)) else (some true)
def posternref18_SameInsts.f (k : Nat) (l0 : List (S43)) (l1 : List (S43)) : Option (Bool) := if (l0.length : Int) = (l1.length : Int) then (posternref18_SameInsts.l0 k l0 l1 (l0.length : Int) 0) else (some false)
theorem posternref18_SameInsts.mono_l : ∀ k, (∀ y0 y1 y2 y3, LeO (posternref18_SameInsts.l0 k y0 y1 y2 y3) (posternref18_SameInsts.l0 (k + 1) y0 y1 y2 y3))
 | 0 => fun _ _ _ _ r h => by simp [posternref18_SameInsts.l0] at h
 | k + 1 => by
  have ih0 := posternref18_SameInsts.mono_l k
  ·
   intro y0 y1 y2 y3
   unfold posternref18_SameInsts.l0
   repeat' (with_reducible first | apply ih0 | exact LeO.refl _ | exact LeO.none _ | refine LeO.ite ?_ ?_ | refine LeO.bind ?_ (fun _ => ?_))
theorem posternref18_SameInsts.mono : ∀ a0 a1 k, LeO (posternref18_SameInsts.f k a0 a1) (posternref18_SameInsts.f (k + 1) a0 a1) := by
 intro a0 a1 k; have ih0 := posternref18_SameInsts.mono_l k
 unfold posternref18_SameInsts.f
 repeat' (with_reducible first | apply ih0 | exact LeO.refl _ | exact LeO.none _ | refine LeO.ite ?_ ?_ | refine LeO.bind ?_ (fun _ => ?_))
theorem posternref18_SameInsts.calls (k : Nat) (A0 : Option Addr) (c0 : Nat) (l0 : List (S43)) (A1 : Option Addr) (c1 : Nat) (l1 : List (S43)) (r : Bool) (w : World) (hr0 : Kd.C k43 w A0 l0.length l0) (hc0 : l0.length ≤ c0) (hr1 : Kd.C k43 w A1 l1.length l1) (hc1 : l1.length ≤ c1) (h : posternref18_SameInsts.f k l0 l1 = some r) :
  Calls Try.prog 10 #[.slice A0 l0.length c0, .slice A1 l1.length c1] w fun e w' => e = .returned (.bool r) ∧ Drawn0 w w' := by
 have hu43 := Try.underlying43; have HR0 := Aside0.mk hr0; have HC0 := Aside0.mk hc0; clear hr0 hc0; have HR1 := Aside0.mk hr1; have HC1 := Aside0.mk hc1; clear hr1 hc1; have H : (if (l0.length : Int) = (l1.length : Int) then (posternref18_SameInsts.l0 k l0 l1 (l0.length : Int) 0) else (some false)) = some r := h; clear h
 by_cases c3 : (l0.length : Int) = (l1.length : Int)
 ·
  rw [if_pos c3] at H
  have ⟨c3b0, c3b1⟩ := eqb_ c3; have c3b2 : (l0.length == l1.length) = true := by first | simpa using c3 | (simp at c3 ⊢; omega)
  clear c3; have H' := Aside0.mk H; clear H; go_enter Try.func10, Try.ntmps10
  go_wp2; go_loopg [13] k (fun kq v13 w' => ∃ (x13_1 : Int), v13 = .int .i64 x13_1 ∧ Aside0 (posternref18_SameInsts.l0 kq l0 l1 (l0.length : Int) x13_1 = some r) ∧ Aside0 (kq ≤ k) ∧ Drawn0 w w')
  case atStart => exact ⟨(0), eq_, H', ⟨Nat.le_refl _⟩, dr_⟩
  case round =>
   clear H'; (try clear c1); (try clear p2); (try clear c3); (try clear c3b0); (try clear c3b1); (try clear c3b2); obtain ⟨x13_1, rfl, HA, HK1, ⟨m1, rfl⟩⟩ := hrel
   cases gk with
   | zero => exact absurd HA.out (by simp [posternref18_SameInsts.l0])
   | succ k1 =>
    have H := HA.out; clear HA; simp only [posternref18_SameInsts.l0] at H
    by_cases c4 : x13_1 < (l0.length : Int)
    ·
     rw [if_pos c4] at H
     have c4b0 := decide_eq_true c4; clear c4
     by_cases c5 : 0 ≤ x13_1
     ·
      rw [if_pos c5] at H
      have c5b0 := decide_eq_true c5; clear c5
      by_cases c6 : x13_1 < (l0.length : Int)
      ·
       rw [if_pos c6] at H
       have c6b0 := decide_eq_true c6; clear c6
       by_cases c7 : x13_1 < (l1.length : Int)
       ·
        rw [if_pos c7] at H
        have c7b0 := decide_eq_true c7; clear c7
        by_cases c8 : (!(((rd_T43 l0 x13_1).f0) == ((rd_T43 l1 x13_1).f0)) || (!(((rd_T43 l0 x13_1).f1) == ((rd_T43 l1 x13_1).f1)) || (!(((rd_T43 l0 x13_1).f2) == ((rd_T43 l1 x13_1).f2)) || (!(((rd_T43 l0 x13_1).f3) == ((rd_T43 l1 x13_1).f3)) || (!(((rd_T43 l0 x13_1).f4) == ((rd_T43 l1 x13_1).f4))))))) = true
        ·
         rw [if_pos c8] at H
         have c8b0 : (!(((rd_T43 l0 x13_1).f0) == ((rd_T43 l1 x13_1).f0)) || (!(((rd_T43 l0 x13_1).f1) == ((rd_T43 l1 x13_1).f1)) || (!(((rd_T43 l0 x13_1).f2) == ((rd_T43 l1 x13_1).f2)) || (!(((rd_T43 l0 x13_1).f3) == ((rd_T43 l1 x13_1).f3)) || (!(((rd_T43 l0 x13_1).f4) == ((rd_T43 l1 x13_1).f4))))))) = true := c8; clear c8; obtain rfl := Option.some.inj H; have p101 : 0 ≤ (x13_1 : Int) := of_decide_eq_true as_; have q101 : x13_1 < (l0.length : Int) := of_decide_eq_true as_; obtain ⟨ad101, e101, hx101_0, hx101_1, hx101_2, hx101_3, hx101_4⟩ := at_T43 HR0.out x13_1 p101 q101
         cases e101
         replace p101 := eq_true p101; replace q101 := eq_true q101; have p102 : 0 ≤ (x13_1 : Int) := of_decide_eq_true as_; have q102 : x13_1 < (l1.length : Int) := of_decide_eq_true as_; obtain ⟨ad102, e102, hx102_0, hx102_1, hx102_2, hx102_3, hx102_4⟩ := at_T43 HR1.out x13_1 p102 q102
         cases e102
         replace p102 := eq_true p102; replace q102 := eq_true q102; go_wp2
         repeat (go_quiet (fail); try go_wp2)
         go_ret
         exact ⟨by first | rfl | (simp; done) | (simp [*]; done), dr_⟩
        ·
         rw [if_neg c8] at H
         have c8b0 : (!(((rd_T43 l0 x13_1).f0) == ((rd_T43 l1 x13_1).f0)) || (!(((rd_T43 l0 x13_1).f1) == ((rd_T43 l1 x13_1).f1)) || (!(((rd_T43 l0 x13_1).f2) == ((rd_T43 l1 x13_1).f2)) || (!(((rd_T43 l0 x13_1).f3) == ((rd_T43 l1 x13_1).f3)) || (!(((rd_T43 l0 x13_1).f4) == ((rd_T43 l1 x13_1).f4))))))) = false := by simpa using c8
         clear c8; have H' := Aside0.mk H; clear H; have p101 : 0 ≤ (x13_1 : Int) := of_decide_eq_true as_; have q101 : x13_1 < (l0.length : Int) := of_decide_eq_true as_; obtain ⟨ad101, e101, hx101_0, hx101_1, hx101_2, hx101_3, hx101_4⟩ := at_T43 HR0.out x13_1 p101 q101
         cases e101
         replace p101 := eq_true p101; replace q101 := eq_true q101; have p102 : 0 ≤ (x13_1 : Int) := of_decide_eq_true as_; have q102 : x13_1 < (l1.length : Int) := of_decide_eq_true as_; obtain ⟨ad102, e102, hx102_0, hx102_1, hx102_2, hx102_3, hx102_4⟩ := at_T43 HR1.out x13_1 p102 q102
         cases e102
         replace p102 := eq_true p102; replace q102 := eq_true q102; go_wp2
         repeat (go_quiet (fail); try go_wp2)
         go_roundg k1
         case measure => have := HK1.out; omega
         case rel => exact ⟨(wrap64 (x13_1 + 1)), eq_, H', ⟨by have := HK1.out; omega⟩, dr_⟩
       ·
        rw [if_neg c7] at H
        exact absurd H (by simp)
      ·
       rw [if_neg c6] at H
       exact absurd H (by simp)
     ·
      rw [if_neg c5] at H
      exact absurd H (by simp)
    ·
     rw [if_neg c4] at H
     have c4b0 := decide_eq_false c4; clear c4; obtain rfl := Option.some.inj H; go_wp2; go_ret
     exact ⟨by first | rfl | (simp; done) | (simp [*]; done), dr_⟩
 ·
  rw [if_neg c3] at H
  have ⟨c3b0, c3b1⟩ := nqb_ c3; have c3b2 : (l0.length == l1.length) = false := by first | simpa using c3 | (simp at c3 ⊢; omega)
  obtain rfl := Option.some.inj H; go_enter Try.func10, Try.ntmps10
  go_wp2; go_ret
  exact ⟨by first | rfl | (simp; done) | (simp [*]; done), dr_⟩

/-! ### posternref18_SameNotes: function 11 -/
def posternref18_SameNotes.l0 : Nat → List (S34) → List (S34) → Int → Int → Option (Bool)
 | 0, _, _, _, _ => none
 | k + 1, x0, x1, x12, x13 => if x13 < x12 then (if 0 ≤ x13 then (if x13 < (x0.length : Int) then (if x13 < (x1.length : Int) then (if (!(((rd_T34 x0 x13).f0) == ((rd_T34 x1 x13).f0)) || (!(((rd_T34 x0 x13).f1) == ((rd_T34 x1 x13).f1)) || (!(((rd_T34 x0 x13).f2) == ((rd_T34 x1 x13).f2))))) = true then (some false) else (posternref18_SameNotes.l0 k x0 x1 x12 (wrap64 (x13 + 1)))) else (none)) else (none)) else (none)) else (some true)
def posternref18_SameNotes.f (k : Nat) (l0 : List (S34)) (l1 : List (S34)) : Option (Bool) := if (l0.length : Int) = (l1.length : Int) then (posternref18_SameNotes.l0 k l0 l1 (l0.length : Int) 0) else (some false)
theorem posternref18_SameNotes.mono_l : ∀ k, (∀ y0 y1 y2 y3, LeO (posternref18_SameNotes.l0 k y0 y1 y2 y3) (posternref18_SameNotes.l0 (k + 1) y0 y1 y2 y3))
 | 0 => fun _ _ _ _ r h => by simp [posternref18_SameNotes.l0] at h
 | k + 1 => by
  have ih0 := posternref18_SameNotes.mono_l k
  ·
   intro y0 y1 y2 y3
   unfold posternref18_SameNotes.l0
   repeat' (with_reducible first | apply ih0 | exact LeO.refl _ | exact LeO.none _ | refine LeO.ite ?_ ?_ | refine LeO.bind ?_ (fun _ => ?_))
theorem posternref18_SameNotes.mono : ∀ a0 a1 k, LeO (posternref18_SameNotes.f k a0 a1) (posternref18_SameNotes.f (k + 1) a0 a1) := by
 intro a0 a1 k; have ih0 := posternref18_SameNotes.mono_l k
 unfold posternref18_SameNotes.f
 repeat' (with_reducible first | apply ih0 | exact LeO.refl _ | exact LeO.none _ | refine LeO.ite ?_ ?_ | refine LeO.bind ?_ (fun _ => ?_))
theorem posternref18_SameNotes.calls (k : Nat) (A0 : Option Addr) (c0 : Nat) (l0 : List (S34)) (A1 : Option Addr) (c1 : Nat) (l1 : List (S34)) (r : Bool) (w : World) (hr0 : Kd.C k34 w A0 l0.length l0) (hc0 : l0.length ≤ c0) (hr1 : Kd.C k34 w A1 l1.length l1) (hc1 : l1.length ≤ c1) (h : posternref18_SameNotes.f k l0 l1 = some r) :
  Calls Try.prog 11 #[.slice A0 l0.length c0, .slice A1 l1.length c1] w fun e w' => e = .returned (.bool r) ∧ Drawn0 w w' := by
 have hu34 := Try.underlying34; have HR0 := Aside0.mk hr0; have HC0 := Aside0.mk hc0; clear hr0 hc0; have HR1 := Aside0.mk hr1; have HC1 := Aside0.mk hc1; clear hr1 hc1; have H : (if (l0.length : Int) = (l1.length : Int) then (posternref18_SameNotes.l0 k l0 l1 (l0.length : Int) 0) else (some false)) = some r := h; clear h
 by_cases c3 : (l0.length : Int) = (l1.length : Int)
 ·
  rw [if_pos c3] at H
  have ⟨c3b0, c3b1⟩ := eqb_ c3; have c3b2 : (l0.length == l1.length) = true := by first | simpa using c3 | (simp at c3 ⊢; omega)
  clear c3; have H' := Aside0.mk H; clear H; go_enter Try.func11, Try.ntmps11
  go_wp2; go_loopg [13] k (fun kq v13 w' => ∃ (x13_1 : Int), v13 = .int .i64 x13_1 ∧ Aside0 (posternref18_SameNotes.l0 kq l0 l1 (l0.length : Int) x13_1 = some r) ∧ Aside0 (kq ≤ k) ∧ Drawn0 w w')
  case atStart => exact ⟨(0), eq_, H', ⟨Nat.le_refl _⟩, dr_⟩
  case round =>
   clear H'; (try clear c1); (try clear p2); (try clear c3); (try clear c3b0); (try clear c3b1); (try clear c3b2); obtain ⟨x13_1, rfl, HA, HK1, ⟨m1, rfl⟩⟩ := hrel
   cases gk with
   | zero => exact absurd HA.out (by simp [posternref18_SameNotes.l0])
   | succ k1 =>
    have H := HA.out; clear HA; simp only [posternref18_SameNotes.l0] at H
    by_cases c4 : x13_1 < (l0.length : Int)
    ·
     rw [if_pos c4] at H
     have c4b0 := decide_eq_true c4; clear c4
     by_cases c5 : 0 ≤ x13_1
     ·
      rw [if_pos c5] at H
      have c5b0 := decide_eq_true c5; clear c5
      by_cases c6 : x13_1 < (l0.length : Int)
      ·
       rw [if_pos c6] at H
       have c6b0 := decide_eq_true c6; clear c6
       by_cases c7 : x13_1 < (l1.length : Int)
       ·
        rw [if_pos c7] at H
        have c7b0 := decide_eq_true c7; clear c7
        by_cases c8 : (!(((rd_T34 l0 x13_1).f0) == ((rd_T34 l1 x13_1).f0)) || (!(((rd_T34 l0 x13_1).f1) == ((rd_T34 l1 x13_1).f1)) || (!(((rd_T34 l0 x13_1).f2) == ((rd_T34 l1 x13_1).f2))))) = true
        ·
         rw [if_pos c8] at H
         have c8b0 : (!(((rd_T34 l0 x13_1).f0) == ((rd_T34 l1 x13_1).f0)) || (!(((rd_T34 l0 x13_1).f1) == ((rd_T34 l1 x13_1).f1)) || (!(((rd_T34 l0 x13_1).f2) == ((rd_T34 l1 x13_1).f2))))) = true := c8; clear c8; obtain rfl := Option.some.inj H; have p103 : 0 ≤ (x13_1 : Int) := of_decide_eq_true as_; have q103 : x13_1 < (l0.length : Int) := of_decide_eq_true as_; obtain ⟨ad103, e103, hx103_0, hx103_1, hx103_2⟩ := at_T34 HR0.out x13_1 p103 q103
         cases e103
         replace p103 := eq_true p103; replace q103 := eq_true q103; have p104 : 0 ≤ (x13_1 : Int) := of_decide_eq_true as_; have q104 : x13_1 < (l1.length : Int) := of_decide_eq_true as_; obtain ⟨ad104, e104, hx104_0, hx104_1, hx104_2⟩ := at_T34 HR1.out x13_1 p104 q104
         cases e104
         replace p104 := eq_true p104; replace q104 := eq_true q104; go_wp2
         repeat (go_quiet (fail); try go_wp2)
         go_ret
         exact ⟨by first | rfl | (simp; done) | (simp [*]; done), dr_⟩
        ·
         rw [if_neg c8] at H
         have c8b0 : (!(((rd_T34 l0 x13_1).f0) == ((rd_T34 l1 x13_1).f0)) || (!(((rd_T34 l0 x13_1).f1) == ((rd_T34 l1 x13_1).f1)) || (!(((rd_T34 l0 x13_1).f2) == ((rd_T34 l1 x13_1).f2))))) = false := by simpa using c8
         clear c8; have H' := Aside0.mk H; clear H; have p103 : 0 ≤ (x13_1 : Int) := of_decide_eq_true as_; have q103 : x13_1 < (l0.length : Int) := of_decide_eq_true as_; obtain ⟨ad103, e103, hx103_0, hx103_1, hx103_2⟩ := at_T34 HR0.out x13_1 p103 q103
         cases e103
         replace p103 := eq_true p103; replace q103 := eq_true q103; have p104 : 0 ≤ (x13_1 : Int) := of_decide_eq_true as_; have q104 : x13_1 < (l1.length : Int) := of_decide_eq_true as_; obtain ⟨ad104, e104, hx104_0, hx104_1, hx104_2⟩ := at_T34 HR1.out x13_1 p104 q104
         cases e104
         replace p104 := eq_true p104; replace q104 := eq_true q104; go_wp2
         repeat (go_quiet (fail); try go_wp2)
         go_roundg k1
         case measure => have := HK1.out; omega
         case rel => exact ⟨(wrap64 (x13_1 + 1)), eq_, H', ⟨by have := HK1.out; omega⟩, dr_⟩
       ·
        rw [if_neg c7] at H
        exact absurd H (by simp)
      ·
       rw [if_neg c6] at H
       exact absurd H (by simp)
     ·
      rw [if_neg c5] at H
      exact absurd H (by simp)
    ·
     rw [if_neg c4] at H
     have c4b0 := decide_eq_false c4; clear c4; obtain rfl := Option.some.inj H; go_wp2; go_ret
     exact ⟨by first | rfl | (simp; done) | (simp [*]; done), dr_⟩
 ·
  rw [if_neg c3] at H
  have ⟨c3b0, c3b1⟩ := nqb_ c3; have c3b2 : (l0.length == l1.length) = false := by first | simpa using c3 | (simp at c3 ⊢; omega)
  obtain rfl := Option.some.inj H; go_enter Try.func11, Try.ntmps11
  go_wp2; go_ret
  exact ⟨by first | rfl | (simp; done) | (simp [*]; done), dr_⟩

/-! ### insn_Wide: function 18 -/
def insn_Wide.f (a0 : Int) : Option (Bool) := some (a0 == 24)
theorem insn_Wide.calls (a0 : Int) (r : Bool) (w : World) (h : insn_Wide.f a0 = some r) :
  Calls Try.prog 18 #[.int .u8 a0] w fun e w' => e = .returned (.bool r) ∧ Drawn0 w w' := by
 have H : (some (a0 == 24)) = some r := h; clear h; obtain rfl := Option.some.inj H; go_enter Try.func18, Try.ntmps18
 go_wp2; go_ret
 exact ⟨by first | rfl | (simp; done) | (simp [*]; done), dr_⟩

/-! ### insn_Class: function 48 -/
def insn_Class.f (a0 : Int) : Option (Int) := some (wrap64 (Go.bits .and .u8 a0 7))
theorem insn_Class.calls (a0 : Int) (r : Int) (w : World) (h : insn_Class.f a0 = some r) :
  Calls Try.prog 48 #[.int .u8 a0] w fun e w' => e = .returned (.int .i64 r) ∧ Drawn0 w w' := by
 have H : (some (wrap64 (Go.bits .and .u8 a0 7))) = some r := h; clear h; obtain rfl := Option.some.inj H; go_enter Try.func48, Try.ntmps48
 go_wp2; go_ret
 exact ⟨by first | rfl | (simp; done) | (simp [*]; done), dr_⟩

/-! ### insn_ByReg: function 49 -/
def insn_ByReg.f (a0 : Int) : Option (Bool) := some ((Go.bits .and .u8 a0 8) != 0)
theorem insn_ByReg.calls (a0 : Int) (r : Bool) (w : World) (h : insn_ByReg.f a0 = some r) :
  Calls Try.prog 49 #[.int .u8 a0] w fun e w' => e = .returned (.bool r) ∧ Drawn0 w w' := by
 have H : (some ((Go.bits .and .u8 a0 8) != 0)) = some r := h; clear h; obtain rfl := Option.some.inj H; go_enter Try.func49, Try.ntmps49
 go_wp2; go_ret
 exact ⟨by first | rfl | (simp; done) | (simp [*]; done), dr_⟩

/-! ### strings_IndexByte: function 57 -/
def strings_IndexByte.f (a0 : ByteArray) (a1 : Int) : Option (Int) := some (Lib.indexByte a0.data.toList a1.toNat.toUInt8)
theorem strings_IndexByte.calls (a0 : ByteArray) (a1 : Int) (r : Int) (w : World) (h : strings_IndexByte.f a0 a1 = some r) :
  Calls Try.prog 57 #[.string a0, .int .u8 a1] w fun e w' => e = .returned (.int .i64 r) ∧ Drawn0 w w' := by
 obtain rfl := Option.some.inj h; refine (Try.strings_IndexByte a0 a1 w).mono ?_; rintro e w' ⟨rfl, rfl⟩; exact ⟨rfl, Drawn0.refl _⟩

/-! ### insn_Known: function 46 -/
mutual
def insn_Known.j0 : Nat → Int → Int → Bool → Option (Bool)
 | 0, _, _, _ => none
 | k + 1, x0, x4, x9 => if x9 = true then (some ((x0 / 32) == 3)) else (if x4 = 4 then (insn_Known.j1 k x0 (x4 == 4)) else (insn_Known.j1 k x0 (x4 == 7)))
def insn_Known.j1 : Nat → Int → Bool → Option (Bool)
 | 0, _, _ => none
 | k + 1, x0, x16 => if x16 = true then ((strings_IndexByte.f (⟨#[0, 16, 32, 48, 64, 80, 96, 112, 128, 144, 160, 176, 192]⟩ : ByteArray) (Go.bits .and .u8 x0 240)).bind fun t107 => (if t107 ≥ 0 then (if (Go.bits .and .u8 x0 240) = 128 then ((insn_ByReg.f x0).bind fun t108 => (some (!t108))) else (some true)) else (some false))) else ((strings_IndexByte.f (⟨#[16, 32, 48, 64, 80, 96, 112, 160, 176, 192, 208]⟩ : ByteArray) (Go.bits .and .u8 x0 240)).bind fun t109 => (if t109 ≥ 0 then (some true) else (if x0 = 5 then (some true) else (if x0 = 133 then (some true) else (some (x0 == 149))))))
end
def insn_Known.f (k : Nat) (a0 : Int) : Option (Bool) := (insn_Class.f a0).bind fun t105 => (if t105 = 0 then ((insn_Wide.f a0).bind fun t106 => (some t106)) else (if t105 = 1 then (insn_Known.j0 k a0 t105 (t105 == 1)) else (if t105 = 2 then (insn_Known.j0 k a0 t105 (t105 == 2)) else (insn_Known.j0 k a0 t105 (t105 == 3)))))
theorem insn_Known.mono_l : ∀ k, (∀ y0 y1 y2, LeO (insn_Known.j0 k y0 y1 y2) (insn_Known.j0 (k + 1) y0 y1 y2)) ∧ (∀ y0 y1, LeO (insn_Known.j1 k y0 y1) (insn_Known.j1 (k + 1) y0 y1))
 | 0 => by refine ⟨?_, ?_⟩ <;> (intros; intro r h; simp [insn_Known.j0, insn_Known.j1] at h)
 | k + 1 => by
  obtain ⟨ih0, ih1⟩ := insn_Known.mono_l k; refine ⟨?_, ?_⟩
  all_goals intros
  all_goals (first | unfold insn_Known.j0 | unfold insn_Known.j1)
  all_goals repeat' (with_reducible first | apply ih0 | apply ih1 | exact LeO.refl _ | exact LeO.none _ | refine LeO.ite ?_ ?_ | refine LeO.bind ?_ (fun _ => ?_))
theorem insn_Known.mono : ∀ a0 k, LeO (insn_Known.f k a0) (insn_Known.f (k + 1) a0) := by
 intro a0 k; obtain ⟨ih0, ih1⟩ := insn_Known.mono_l k
 unfold insn_Known.f
 repeat' (with_reducible first | apply ih0 | apply ih1 | exact LeO.refl _ | exact LeO.none _ | refine LeO.ite ?_ ?_ | refine LeO.bind ?_ (fun _ => ?_))
theorem insn_Known.calls (k : Nat) (a0 : Int) (r : Bool) (w : World) (h : insn_Known.f k a0 = some r) :
  Calls Try.prog 46 #[.int .u8 a0] w fun e w' => e = .returned (.bool r) ∧ Drawn0 w w' := by
 have H : ((insn_Class.f a0).bind fun t105 => (if t105 = 0 then ((insn_Wide.f a0).bind fun t106 => (some t106)) else (if t105 = 1 then (insn_Known.j0 k a0 t105 (t105 == 1)) else (if t105 = 2 then (insn_Known.j0 k a0 t105 (t105 == 2)) else (insn_Known.j0 k a0 t105 (t105 == 3)))))) = some r := h; clear h; replace H := bs_ H; obtain ⟨t105, A2, H⟩ := H; (try dsimp only at H)
 by_cases c3 : t105 = 0
 ·
  rw [if_pos c3] at H
  have ⟨c3b0, c3b1⟩ := eqb_ c3; clear c3; replace H := bs_ H; obtain ⟨t106, A4, H⟩ := H; (try dsimp only at H); obtain rfl := Option.some.inj H; go_enter Try.func46, Try.ntmps46
  go_wp2_with (first | ((with_reducible refine gate_callee (f := 48) rfl ?_); refine goesL_ (some 4) rfl rfl Try.func48 (by kernel_rfl) rfl #[.int .u8 a0] rfl am_ ?_; (with_reducible refine (insn_Class.calls a0 t105 _ A2.out).mono ?_); rintro e w' ⟨rfl, ⟨nd, rfl⟩⟩; refine ⟨_, rfl, ?_⟩) | ((with_reducible refine gate_callee (f := 18) rfl ?_); refine goesL_ (some 8) rfl rfl Try.func18 (by kernel_rfl) rfl #[.int .u8 a0] rfl am_ ?_; (with_reducible refine (insn_Wide.calls a0 t106 _ A4.out).mono ?_); rintro e w' ⟨rfl, ⟨nd, rfl⟩⟩; refine ⟨_, rfl, ?_⟩))
  go_ret
  exact ⟨by first | rfl | (simp; done) | (simp [*]; done), dr_⟩
 ·
  rw [if_neg c3] at H
  have ⟨c3b0, c3b1⟩ := nqb_ c3; have HC5 := Aside0.mk H; clear H; go_enter Try.func46, Try.ntmps46
  go_upto_if 9 with (first | ((with_reducible refine gate_callee (f := 48) rfl ?_); refine goesL_ (some 4) rfl rfl Try.func48 (by kernel_rfl) rfl #[.int .u8 a0] rfl am_ ?_; (with_reducible refine (insn_Class.calls a0 t105 _ A2.out).mono ?_); rintro e w' ⟨rfl, ⟨nd, rfl⟩⟩; refine ⟨_, rfl, ?_⟩))
  (try simp only [Act.put, List.setIfInBounds_toArray, List.set_cons_zero, List.set_cons_succ]); go_cut [9] (fun v9 wc => ∃ (kq : Nat) (x9_4 : Bool), v9 = .bool x9_4 ∧ Aside0 (insn_Known.j0 kq a0 t105 x9_4 = some r) ∧ Aside0 (kq ≤ k) ∧ Drawn0 w wc)
  case first =>
   have H := HC5.out; clear HC5
   by_cases c6 : t105 = 1
   ·
    rw [if_pos c6] at H
    have ⟨c6b0, c6b1⟩ := eqb_ c6; clear c6; (first | rw [c6b0] | (simp only [i64_w, i32_w]; rw [c6b0]) | skip); have H' := Aside0.mk H; clear H; go_wp2; go_meet
    case rel => exact ⟨_, ((t105 == 1)), eq_, H', ⟨by first | omega | exact Nat.le_refl _⟩, dr_⟩
   ·
    rw [if_neg c6] at H
    have ⟨c6b0, c6b1⟩ := nqb_ c6; (first | rw [c6b0] | (simp only [i64_w, i32_w]; rw [c6b0]) | skip)
    by_cases c7 : t105 = 2
    ·
     rw [if_pos c7] at H
     have ⟨c7b0, c7b1⟩ := eqb_ c7; clear c7; have H' := Aside0.mk H; clear H; go_wp2; go_meet
     case rel => exact ⟨_, ((t105 == 2)), eq_, H', ⟨by first | omega | exact Nat.le_refl _⟩, dr_⟩
    ·
     rw [if_neg c7] at H
     have ⟨c7b0, c7b1⟩ := nqb_ c7; have H' := Aside0.mk H; clear H; go_wp2; go_meet
     case rel => exact ⟨_, ((t105 == 3)), eq_, H', ⟨by first | omega | exact Nat.le_refl _⟩, dr_⟩
  case rest =>
   clear HC5 c3 c3b0 c3b1; obtain ⟨kq, x9_4, rfl, HA, HJ4, ⟨mc4, rfl⟩⟩ := hcut
   cases kq with
   | zero => exact absurd HA.out (by simp [insn_Known.j0])
   | succ kj4 =>
    have H := HA.out; clear HA; simp only [insn_Known.j0] at H
    by_cases c8 : x9_4 = true
    ·
     subst c8
     rw [if_pos rfl] at H; obtain rfl := Option.some.inj H; go_wp2; go_ret
     exact ⟨by first | rfl | (simp; done) | (simp [*]; done), dr_⟩
    ·
     replace c8 := Bool.eq_false_iff.mpr c8
     subst c8; rw [if_neg (show ¬ (false = true) by decide)] at H; have HC9 := Aside0.mk H; clear H; go_upto_if 16 with (fail)
     go_cut [16] (fun v16 wc => ∃ (kq : Nat) (x16_8 : Bool), v16 = .bool x16_8 ∧ Aside0 (insn_Known.j1 kq a0 x16_8 = some r) ∧ Aside0 (kq ≤ kj4) ∧ Drawn0 w wc)
     case first =>
      have H := HC9.out; clear HC9
      by_cases c10 : t105 = 4
      ·
       rw [if_pos c10] at H
       have ⟨c10b0, c10b1⟩ := eqb_ c10; clear c10; (first | rw [c10b0] | (simp only [i64_w, i32_w]; rw [c10b0]) | skip); have H' := Aside0.mk H; clear H; go_wp2; go_meet
       case rel => exact ⟨_, ((t105 == 4)), eq_, H', ⟨by have := HJ4.out; first | omega | exact Nat.le_refl _⟩, dr_⟩
      ·
       rw [if_neg c10] at H
       have ⟨c10b0, c10b1⟩ := nqb_ c10; (first | rw [c10b0] | (simp only [i64_w, i32_w]; rw [c10b0]) | skip); have H' := Aside0.mk H; clear H; go_wp2; go_meet
       case rel => exact ⟨_, ((t105 == 7)), eq_, H', ⟨by have := HJ4.out; first | omega | exact Nat.le_refl _⟩, dr_⟩
     case rest =>
      clear HC9; obtain ⟨kq, x16_8, rfl, HA, HJ8, ⟨mc8, rfl⟩⟩ := hcut
      cases kq with
      | zero => exact absurd HA.out (by simp [insn_Known.j1])
      | succ kj8 =>
       have H := HA.out; clear HA; simp only [insn_Known.j1] at H
       by_cases c11 : x16_8 = true
       ·
        subst c11
        rw [if_pos rfl] at H; replace H := bs_ H; obtain ⟨t107, A12, H⟩ := H; (try dsimp only at H)
        by_cases c13 : t107 ≥ 0
        ·
         rw [if_pos c13] at H
         have c13b0 := decide_eq_true c13; clear c13
         by_cases c14 : (Go.bits .and .u8 a0 240) = 128
         ·
          rw [if_pos c14] at H
          have ⟨c14b0, c14b1⟩ := eqb_ c14; clear c14; replace H := bs_ H; obtain ⟨t108, A15, H⟩ := H; (try dsimp only at H); obtain rfl := Option.some.inj H; go_wp2_with (first | ((with_reducible refine gate_callee (f := 57) rfl ?_); refine goesL_ (some 21) rfl rfl Try.func57 (by kernel_rfl) rfl #[.string (⟨#[0, 16, 32, 48, 64, 80, 96, 112, 128, 144, 160, 176, 192]⟩ : ByteArray), .int .u8 (Go.bits .and .u8 a0 240)] rfl am_ ?_; (with_reducible refine (strings_IndexByte.calls (⟨#[0, 16, 32, 48, 64, 80, 96, 112, 128, 144, 160, 176, 192]⟩ : ByteArray) (Go.bits .and .u8 a0 240) t107 _ A12.out).mono ?_); rintro e w' ⟨rfl, ⟨nd, rfl⟩⟩; refine ⟨_, rfl, ?_⟩) | (go_at_call 49; (with_reducible refine (insn_ByReg.calls a0 t108 _ A15.out).mono ?_); rintro e w' ⟨rfl, ⟨nd, rfl⟩⟩))
          go_ret
          exact ⟨by first | rfl | (simp; done) | (simp [*]; done), dr_⟩
         ·
          rw [if_neg c14] at H
          have ⟨c14b0, c14b1⟩ := nqb_ c14; obtain rfl := Option.some.inj H; go_wp2_with (first | ((with_reducible refine gate_callee (f := 57) rfl ?_); refine goesL_ (some 21) rfl rfl Try.func57 (by kernel_rfl) rfl #[.string (⟨#[0, 16, 32, 48, 64, 80, 96, 112, 128, 144, 160, 176, 192]⟩ : ByteArray), .int .u8 (Go.bits .and .u8 a0 240)] rfl am_ ?_; (with_reducible refine (strings_IndexByte.calls (⟨#[0, 16, 32, 48, 64, 80, 96, 112, 128, 144, 160, 176, 192]⟩ : ByteArray) (Go.bits .and .u8 a0 240) t107 _ A12.out).mono ?_); rintro e w' ⟨rfl, ⟨nd, rfl⟩⟩; refine ⟨_, rfl, ?_⟩))
          go_ret
          exact ⟨by first | rfl | (simp; done) | (simp [*]; done), dr_⟩
        ·
         rw [if_neg c13] at H
         have c13b0 := decide_eq_false c13; clear c13; obtain rfl := Option.some.inj H; go_wp2_with (first | ((with_reducible refine gate_callee (f := 57) rfl ?_); refine goesL_ (some 21) rfl rfl Try.func57 (by kernel_rfl) rfl #[.string (⟨#[0, 16, 32, 48, 64, 80, 96, 112, 128, 144, 160, 176, 192]⟩ : ByteArray), .int .u8 (Go.bits .and .u8 a0 240)] rfl am_ ?_; (with_reducible refine (strings_IndexByte.calls (⟨#[0, 16, 32, 48, 64, 80, 96, 112, 128, 144, 160, 176, 192]⟩ : ByteArray) (Go.bits .and .u8 a0 240) t107 _ A12.out).mono ?_); rintro e w' ⟨rfl, ⟨nd, rfl⟩⟩; refine ⟨_, rfl, ?_⟩))
         go_ret
         exact ⟨by first | rfl | (simp; done) | (simp [*]; done), dr_⟩
       ·
        replace c11 := Bool.eq_false_iff.mpr c11
        subst c11; rw [if_neg (show ¬ (false = true) by decide)] at H; replace H := bs_ H; obtain ⟨t109, A16, H⟩ := H; (try dsimp only at H)
        by_cases c17 : t109 ≥ 0
        ·
         rw [if_pos c17] at H
         have c17b0 := decide_eq_true c17; clear c17; obtain rfl := Option.some.inj H; go_wp2_with (first | ((with_reducible refine gate_callee (f := 57) rfl ?_); refine goesL_ (some 35) rfl rfl Try.func57 (by kernel_rfl) rfl #[.string (⟨#[16, 32, 48, 64, 80, 96, 112, 160, 176, 192, 208]⟩ : ByteArray), .int .u8 (Go.bits .and .u8 a0 240)] rfl am_ ?_; (with_reducible refine (strings_IndexByte.calls (⟨#[16, 32, 48, 64, 80, 96, 112, 160, 176, 192, 208]⟩ : ByteArray) (Go.bits .and .u8 a0 240) t109 _ A16.out).mono ?_); rintro e w' ⟨rfl, ⟨nd, rfl⟩⟩; refine ⟨_, rfl, ?_⟩))
         go_ret
         exact ⟨by first | rfl | (simp; done) | (simp [*]; done), dr_⟩
        ·
         rw [if_neg c17] at H
         have c17b0 := decide_eq_false c17; clear c17
         by_cases c18 : a0 = 5
         ·
          rw [if_pos c18] at H
          have ⟨c18b0, c18b1⟩ := eqb_ c18; clear c18; obtain rfl := Option.some.inj H; go_wp2_with (first | ((with_reducible refine gate_callee (f := 57) rfl ?_); refine goesL_ (some 35) rfl rfl Try.func57 (by kernel_rfl) rfl #[.string (⟨#[16, 32, 48, 64, 80, 96, 112, 160, 176, 192, 208]⟩ : ByteArray), .int .u8 (Go.bits .and .u8 a0 240)] rfl am_ ?_; (with_reducible refine (strings_IndexByte.calls (⟨#[16, 32, 48, 64, 80, 96, 112, 160, 176, 192, 208]⟩ : ByteArray) (Go.bits .and .u8 a0 240) t109 _ A16.out).mono ?_); rintro e w' ⟨rfl, ⟨nd, rfl⟩⟩; refine ⟨_, rfl, ?_⟩))
          go_ret
          exact ⟨by first | rfl | (simp; done) | (simp [*]; done), dr_⟩
         ·
          rw [if_neg c18] at H
          have ⟨c18b0, c18b1⟩ := nqb_ c18
          by_cases c19 : a0 = 133
          ·
           rw [if_pos c19] at H
           have ⟨c19b0, c19b1⟩ := eqb_ c19; clear c19; obtain rfl := Option.some.inj H; go_wp2_with (first | ((with_reducible refine gate_callee (f := 57) rfl ?_); refine goesL_ (some 35) rfl rfl Try.func57 (by kernel_rfl) rfl #[.string (⟨#[16, 32, 48, 64, 80, 96, 112, 160, 176, 192, 208]⟩ : ByteArray), .int .u8 (Go.bits .and .u8 a0 240)] rfl am_ ?_; (with_reducible refine (strings_IndexByte.calls (⟨#[16, 32, 48, 64, 80, 96, 112, 160, 176, 192, 208]⟩ : ByteArray) (Go.bits .and .u8 a0 240) t109 _ A16.out).mono ?_); rintro e w' ⟨rfl, ⟨nd, rfl⟩⟩; refine ⟨_, rfl, ?_⟩))
           go_ret
           exact ⟨by first | rfl | (simp; done) | (simp [*]; done), dr_⟩
          ·
           rw [if_neg c19] at H
           have ⟨c19b0, c19b1⟩ := nqb_ c19; obtain rfl := Option.some.inj H; go_wp2_with (first | ((with_reducible refine gate_callee (f := 57) rfl ?_); refine goesL_ (some 35) rfl rfl Try.func57 (by kernel_rfl) rfl #[.string (⟨#[16, 32, 48, 64, 80, 96, 112, 160, 176, 192, 208]⟩ : ByteArray), .int .u8 (Go.bits .and .u8 a0 240)] rfl am_ ?_; (with_reducible refine (strings_IndexByte.calls (⟨#[16, 32, 48, 64, 80, 96, 112, 160, 176, 192, 208]⟩ : ByteArray) (Go.bits .and .u8 a0 240) t109 _ A16.out).mono ?_); rintro e w' ⟨rfl, ⟨nd, rfl⟩⟩; refine ⟨_, rfl, ?_⟩))
           go_ret
           exact ⟨by first | rfl | (simp; done) | (simp [*]; done), dr_⟩

/-! ### insn_Kind: function 50 -/
def insn_Kind.f (a0 : Int) : Option (Int) := some (wrap64 (Go.bits .and .u8 a0 240))
theorem insn_Kind.calls (a0 : Int) (r : Int) (w : World) (h : insn_Kind.f a0 = some r) :
  Calls Try.prog 50 #[.int .u8 a0] w fun e w' => e = .returned (.int .i64 r) ∧ Drawn0 w w' := by
 have H : (some (wrap64 (Go.bits .and .u8 a0 240))) = some r := h; clear h; obtain rfl := Option.some.inj H; go_enter Try.func50, Try.ntmps50
 go_wp2; go_ret
 exact ⟨by first | rfl | (simp; done) | (simp [*]; done), dr_⟩

end Go.Proofs.Ytmijlibnembkaaa.PA
