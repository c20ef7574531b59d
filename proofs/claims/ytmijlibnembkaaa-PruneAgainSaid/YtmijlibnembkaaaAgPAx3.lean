-- Printed by wip/tools/extprint.py over the kit's printer, with contracts of this session's own. Lean checks it.
import Derived.Test.YtmijlibnembkaaaAgPAx0
namespace Go.Proofs.Ytmijlibnembkaaa.PA
open Go.RowKit Go.Proofs.YtmijlibnembkaaaW.PrintWords Go.Proofs.YtmijlibnembkaaaW.PrintLast Go.Proofs.YtmijlibnembkaaaW.PrintMore
attribute [local go_sem] max2_int min2_int max_two min_two max_three min_three max_four min_four   -- for this text's walks alone
set_option linter.unusedVariables false
set_option linter.unusedSimpArgs false

/-! ### shape_part: function 31 -/
def shape_part.f (l0 : List Int) (x : Int) : Option Int := if l0.length = 0 then none else if 4611686018427387904 ≤ l0.length then none else if l0.Pairwise (· ≤ ·) then some (if l0.contains x = true then (l0.countP (· < x) : Nat) else wrap64 ((l0.countP (· < x) : Nat) - 1)) else none
theorem shape_part.calls (B : Nat) (l0 : List Int) (x r : Int) (w : World) (hbox : ∃ A c, w.cell? ⟨B, 0, none⟩ = some (.slice A l0.length c) ∧ l0.length ≤ c ∧ Kd.C (Kd.int .i64) w A l0.length l0) (h : shape_part.f l0 x = some r) :
  Calls Try.prog 31 #[.int .i64 x, .pointer (some ⟨B, 0, none⟩)] w fun e w' => e = .returned (.int .i64 r) ∧ Drawn0 w w' := by
 by_cases h0 : l0.length = 0
 ·
  simp [shape_part.f, h0] at h
 by_cases h1 : 4611686018427387904 ≤ l0.length
 ·
  simp [shape_part.f, h0, h1] at h
 by_cases h2 : l0.Pairwise (· ≤ ·)
 ·
  simp only [shape_part.f, if_neg h0, if_neg h1, if_pos h2, Option.some.injEq] at h
  obtain ⟨A, c, hx, hl, hC⟩ := hbox; obtain ⟨b, off, rfl, hc⟩ := Go.Proofs.YtmijlibnembkaaaX.C_int_cells hC (by omega); have HS := Aside0.mk h2; have H1 := Aside0.mk (show l0.length < 4611686018427387904 by omega); have HC := Aside0.mk hc; have H := Aside0.mk h; clear h0 h1 h2 hl hC hc h
  by_cases hm : l0.contains x = true
  ·
   go_enter Try.func31, Try.ntmps31
   go_wp2_with (go_at_call 32; refine (Try.slices_BinarySearch_int b off l0.length c l0 x _ (Nat.le_refl _) H1.out HC.out (by rw [List.take_length]; exact HS.out)).mono ?_; rw [List.take_length, hm]; rintro e w' ⟨rfl, ⟨q, rfl⟩⟩)
   go_ret
   have := H.out; rw [if_pos hm] at this; exact ⟨by rw [← this]; rfl, by repeat (first | exact Drawn0.refl _ | apply Drawn0.step)⟩
  ·
   replace hm : l0.contains x = false := by simpa using hm
   go_enter Try.func31, Try.ntmps31
   go_wp2_with (go_at_call 32; refine (Try.slices_BinarySearch_int b off l0.length c l0 x _ (Nat.le_refl _) H1.out HC.out (by rw [List.take_length]; exact HS.out)).mono ?_; rw [List.take_length, hm]; rintro e w' ⟨rfl, ⟨q, rfl⟩⟩)
   go_ret
   have := H.out; rw [hm, if_neg (by decide)] at this; exact ⟨by rw [← this]; rfl, by repeat (first | exact Drawn0.refl _ | apply Drawn0.step)⟩
 ·
  simp [shape_part.f, h0, h1, h2] at h

/-! ### insn_Wide: function 18 -/
def insn_Wide.f (a0 : Int) : Option (Bool) := some (a0 == 24)
set_option maxHeartbeats 8000000 in
set_option maxRecDepth 100000 in
theorem insn_Wide.calls (a0 : Int) (r : Bool) (w : World) (h : insn_Wide.f a0 = some r) :
  Calls Try.prog 18 #[.int .u8 a0] w fun e w' => e = .returned (.bool r) ∧ Drawn0 w w' := by
 have H : (some (a0 == 24)) = some r := h; clear h; obtain rfl := Option.some.inj H; go_enter Try.func18, Try.ntmps18
 go_wp2; go_ret
 exact ⟨by first | rfl | (simp; done) | (simp [*]; done), by repeat (first | exact Drawn0.refl _ | apply Drawn0.step)⟩

/-! ### insn_Class: function 48 -/
def insn_Class.f (a0 : Int) : Option (Int) := some (wrap64 (Go.bits .and .u8 a0 7))
set_option maxHeartbeats 8000000 in
set_option maxRecDepth 100000 in
theorem insn_Class.calls (a0 : Int) (r : Int) (w : World) (h : insn_Class.f a0 = some r) :
  Calls Try.prog 48 #[.int .u8 a0] w fun e w' => e = .returned (.int .i64 r) ∧ Drawn0 w w' := by
 have H : (some (wrap64 (Go.bits .and .u8 a0 7))) = some r := h; clear h; obtain rfl := Option.some.inj H; go_enter Try.func48, Try.ntmps48
 go_wp2; go_ret
 exact ⟨by first | rfl | (simp; done) | (simp [*]; done), by repeat (first | exact Drawn0.refl _ | apply Drawn0.step)⟩

/-! ### insn_ByReg: function 49 -/
def insn_ByReg.f (a0 : Int) : Option (Bool) := some ((Go.bits .and .u8 a0 8) != 0)
set_option maxHeartbeats 8000000 in
set_option maxRecDepth 100000 in
theorem insn_ByReg.calls (a0 : Int) (r : Bool) (w : World) (h : insn_ByReg.f a0 = some r) :
  Calls Try.prog 49 #[.int .u8 a0] w fun e w' => e = .returned (.bool r) ∧ Drawn0 w w' := by
 have H : (some ((Go.bits .and .u8 a0 8) != 0)) = some r := h; clear h; obtain rfl := Option.some.inj H; go_enter Try.func49, Try.ntmps49
 go_wp2; go_ret
 exact ⟨by first | rfl | (simp; done) | (simp [*]; done), by repeat (first | exact Drawn0.refl _ | apply Drawn0.step)⟩

/-! ### strings_IndexByte: function 57 -/
def strings_IndexByte.f (a0 : ByteArray) (a1 : Int) : Option (Int) := some (Lib.indexByte a0.data.toList a1.toNat.toUInt8)
theorem strings_IndexByte.calls (a0 : ByteArray) (a1 : Int) (r : Int) (w : World) (h : strings_IndexByte.f a0 a1 = some r) :
  Calls Try.prog 57 #[.string a0, .int .u8 a1] w fun e w' => e = .returned (.int .i64 r) ∧ Drawn0 w w' := by
 obtain rfl := Option.some.inj h; refine (Try.strings_IndexByte a0 a1 w).mono ?_; rintro e w' ⟨rfl, rfl⟩; exact ⟨rfl, Drawn0.refl _⟩

/-! ### insn_Known: function 46 -/
mutual
def insn_Known.j0 : Nat → Int → Int → Bool → Option (Bool)
 | 0, _, _, _ => none
 | k + 1, x0, x4, x9 => if x9 = true then (some ((x0 / 32) == 3)) else (if x4 = 4 then (insn_Known.j1 k x0 (x4 == 4)) else (insn_Known.j1 k x0 (x4 == 7)))
def insn_Known.j1 : Nat → Int → Bool → Option (Bool)
 | 0, _, _ => none
 | k + 1, x0, x16 => if x16 = true then ((strings_IndexByte.f (⟨#[0, 16, 32, 48, 64, 80, 96, 112, 128, 144, 160, 176, 192]⟩ : ByteArray) (Go.bits .and .u8 x0 240)).bind fun t103 => (if t103 ≥ 0 then (if (Go.bits .and .u8 x0 240) = 128 then ((insn_ByReg.f x0).bind fun t104 => (some (!t104))) else (some true)) else (some false))) else ((strings_IndexByte.f (⟨#[16, 32, 48, 64, 80, 96, 112, 160, 176, 192, 208]⟩ : ByteArray) (Go.bits .and .u8 x0 240)).bind fun t105 => (if t105 ≥ 0 then (some true) else (if x0 = 5 then (some true) else (if x0 = 133 then (some true) else (some (x0 == 149))))))
end
def insn_Known.f (k : Nat) (a0 : Int) : Option (Bool) := (insn_Class.f a0).bind fun t101 => (if t101 = 0 then ((insn_Wide.f a0).bind fun t102 => (some t102)) else (if t101 = 1 then (insn_Known.j0 k a0 t101 (t101 == 1)) else (if t101 = 2 then (insn_Known.j0 k a0 t101 (t101 == 2)) else (insn_Known.j0 k a0 t101 (t101 == 3)))))
theorem insn_Known.mono_l : ∀ k, (∀ y0 y1 y2, LeO (insn_Known.j0 k y0 y1 y2) (insn_Known.j0 (k + 1) y0 y1 y2)) ∧ (∀ y0 y1, LeO (insn_Known.j1 k y0 y1) (insn_Known.j1 (k + 1) y0 y1))
 | 0 => ⟨fun _ _ _ r h => by simp [insn_Known.j0] at h, fun _ _ r h => by simp [insn_Known.j1] at h⟩
 | k + 1 => by
  obtain ⟨ih0, ih1⟩ := insn_Known.mono_l k; refine ⟨?_, ?_⟩
  ·
   intro y0 y1 y2
   unfold insn_Known.j0
   repeat' first
   | (with_reducible exact ih0 _ _ _)
   | (with_reducible exact ih1 _ _)
   | (with_reducible exact LeO.refl _)
   | (with_reducible exact LeO.none _)
   | (with_reducible refine LeO.ite ?_ ?_)
   | (with_reducible refine LeO.bind ?_ (fun _ => ?_))
  ·
   intro y0 y1
   unfold insn_Known.j1
   repeat' first
   | (with_reducible exact ih0 _ _ _)
   | (with_reducible exact ih1 _ _)
   | (with_reducible exact LeO.refl _)
   | (with_reducible exact LeO.none _)
   | (with_reducible refine LeO.ite ?_ ?_)
   | (with_reducible refine LeO.bind ?_ (fun _ => ?_))
theorem insn_Known.mono : ∀ a0 k, LeO (insn_Known.f k a0) (insn_Known.f (k + 1) a0) := by
 intro a0 k; obtain ⟨ih0, ih1⟩ := insn_Known.mono_l k
 unfold insn_Known.f
 repeat' first
   | (with_reducible exact ih0 _ _ _)
   | (with_reducible exact ih1 _ _)
   | (with_reducible exact LeO.refl _)
   | (with_reducible exact LeO.none _)
   | (with_reducible refine LeO.ite ?_ ?_)
   | (with_reducible refine LeO.bind ?_ (fun _ => ?_))
set_option maxHeartbeats 8000000 in
set_option maxRecDepth 100000 in
theorem insn_Known.calls (k : Nat) (a0 : Int) (r : Bool) (w : World) (h : insn_Known.f k a0 = some r) :
  Calls Try.prog 46 #[.int .u8 a0] w fun e w' => e = .returned (.bool r) ∧ Drawn0 w w' := by
 have H : ((insn_Class.f a0).bind fun t101 => (if t101 = 0 then ((insn_Wide.f a0).bind fun t102 => (some t102)) else (if t101 = 1 then (insn_Known.j0 k a0 t101 (t101 == 1)) else (if t101 = 2 then (insn_Known.j0 k a0 t101 (t101 == 2)) else (insn_Known.j0 k a0 t101 (t101 == 3)))))) = some r := h; clear h; replace H := Option.bind_eq_some_iff.mp H; obtain ⟨t101, A20, H⟩ := H; replace H : (if t101 = 0 then ((insn_Wide.f a0).bind fun t102 => (some t102)) else (if t101 = 1 then (insn_Known.j0 k a0 t101 (t101 == 1)) else (if t101 = 2 then (insn_Known.j0 k a0 t101 (t101 == 2)) else (insn_Known.j0 k a0 t101 (t101 == 3))))) = some r := H; have A2 := Aside0.mk A20; clear A20
 by_cases c3 : t101 = 0
 ·
  rw [if_pos c3] at H
  have c3b0 : (t101 == 0) = true := beq_iff_eq.mpr c3; have c3b1 : (t101 != 0) = false := bne_eq_false_iff_eq.mpr c3; clear c3; replace H := Option.bind_eq_some_iff.mp H; obtain ⟨t102, A40, H⟩ := H; replace H : (some t102) = some r := H; have A4 := Aside0.mk A40; clear A40; obtain rfl := Option.some.inj H; go_enter Try.func46, Try.ntmps46
  go_wp2_with (first | ((with_reducible refine gate_callee (f := 48) rfl ?_); refine goesL_ (some 4) rfl rfl Try.func48 (by kernel_rfl) rfl #[.int .u8 a0] rfl (by (try simp only [List.map_toArray, List.map_cons, List.map_nil]); first | done | rfl | (simp only [List.length_drop, List.length_take]; rfl)) ?_; (with_reducible refine (insn_Class.calls a0 t101 _ A2.out).mono ?_); rintro e w' ⟨rfl, ⟨nd, rfl⟩⟩; refine ⟨_, rfl, ?_⟩) | ((with_reducible refine gate_callee (f := 18) rfl ?_); refine goesL_ (some 8) rfl rfl Try.func18 (by kernel_rfl) rfl #[.int .u8 a0] rfl (by (try simp only [List.map_toArray, List.map_cons, List.map_nil]); first | done | rfl | (simp only [List.length_drop, List.length_take]; rfl)) ?_; (with_reducible refine (insn_Wide.calls a0 t102 _ A4.out).mono ?_); rintro e w' ⟨rfl, ⟨nd, rfl⟩⟩; refine ⟨_, rfl, ?_⟩))
  go_ret
  exact ⟨by first | rfl | (simp; done) | (simp [*]; done), by repeat (first | exact Drawn0.refl _ | apply Drawn0.step)⟩
 ·
  rw [if_neg c3] at H
  have c3b0 : (t101 == 0) = false := beq_eq_false_iff_ne.mpr c3; have c3b1 : (t101 != 0) = true := bne_iff_ne.mpr c3; have HC5 := Aside0.mk H; clear H; go_enter Try.func46, Try.ntmps46
  go_upto_if 9 with (first | ((with_reducible refine gate_callee (f := 48) rfl ?_); refine goesL_ (some 4) rfl rfl Try.func48 (by kernel_rfl) rfl #[.int .u8 a0] rfl (by (try simp only [List.map_toArray, List.map_cons, List.map_nil]); first | done | rfl | (simp only [List.length_drop, List.length_take]; rfl)) ?_; (with_reducible refine (insn_Class.calls a0 t101 _ A2.out).mono ?_); rintro e w' ⟨rfl, ⟨nd, rfl⟩⟩; refine ⟨_, rfl, ?_⟩))
  (try simp only [Act.put, List.setIfInBounds_toArray, List.set_cons_zero, List.set_cons_succ]); go_cut [9] (fun v9 wc => ∃ (kq : Nat) (x9_4 : Bool), v9 = .bool x9_4 ∧ Aside0 (insn_Known.j0 kq a0 t101 x9_4 = some r) ∧ Aside0 (kq ≤ k) ∧ Drawn0 w wc)
  case first =>
   have H := HC5.out; clear HC5
   by_cases c6 : t101 = 1
   ·
    rw [if_pos c6] at H
    have c6b0 : (t101 == 1) = true := beq_iff_eq.mpr c6; have c6b1 : (t101 != 1) = false := bne_eq_false_iff_eq.mpr c6; clear c6; (first | rw [c6b0] | (simp only [i64_w, i32_w]; rw [c6b0]) | skip); have H' := Aside0.mk H; clear H; go_wp2; go_meet
    case rel => exact ⟨_, ((t101 == 1)), eq_, H', ⟨by first | omega | exact Nat.le_refl _⟩, by repeat (first | exact Drawn0.refl _ | apply Drawn0.step)⟩
   ·
    rw [if_neg c6] at H
    have c6b0 : (t101 == 1) = false := beq_eq_false_iff_ne.mpr c6; have c6b1 : (t101 != 1) = true := bne_iff_ne.mpr c6; (first | rw [c6b0] | (simp only [i64_w, i32_w]; rw [c6b0]) | skip)
    by_cases c7 : t101 = 2
    ·
     rw [if_pos c7] at H
     have c7b0 : (t101 == 2) = true := beq_iff_eq.mpr c7; have c7b1 : (t101 != 2) = false := bne_eq_false_iff_eq.mpr c7; clear c7; have H' := Aside0.mk H; clear H; go_wp2; go_meet
     case rel => exact ⟨_, ((t101 == 2)), eq_, H', ⟨by first | omega | exact Nat.le_refl _⟩, by repeat (first | exact Drawn0.refl _ | apply Drawn0.step)⟩
    ·
     rw [if_neg c7] at H
     have c7b0 : (t101 == 2) = false := beq_eq_false_iff_ne.mpr c7; have c7b1 : (t101 != 2) = true := bne_iff_ne.mpr c7; have H' := Aside0.mk H; clear H; go_wp2; go_meet
     case rel => exact ⟨_, ((t101 == 3)), eq_, H', ⟨by first | omega | exact Nat.le_refl _⟩, by repeat (first | exact Drawn0.refl _ | apply Drawn0.step)⟩
  case rest =>
   clear HC5; (try clear c1); (try clear p2); (try clear c3); (try clear c3b0); (try clear c3b1); (try clear c4); (try clear c6); (try clear c6b0); (try clear c6b1); (try clear c7); (try clear c7b0); (try clear c7b1); obtain ⟨kq, x9_4, rfl, HA, HJ4, ⟨mc4, rfl⟩⟩ := hcut
   cases kq with
   | zero => exact absurd HA.out (by simp [insn_Known.j0])
   | succ kj4 =>
    have H := HA.out; clear HA; simp only [insn_Known.j0] at H
    by_cases c8 : x9_4 = true
    ·
     subst c8
     have H1 : (some ((a0 / 32) == 3)) = some r := by rw [if_pos rfl] at H; exact H
     clear H; have H := H1; clear H1; obtain rfl := Option.some.inj H; go_wp2; go_ret
     exact ⟨by first | rfl | (simp; done) | (simp [*]; done), by repeat (first | exact Drawn0.refl _ | apply Drawn0.step)⟩
    ·
     replace c8 := Bool.eq_false_iff.mpr c8
     subst c8; have H1 : (if t101 = 4 then (insn_Known.j1 kj4 a0 (t101 == 4)) else (insn_Known.j1 kj4 a0 (t101 == 7))) = some r := by rw [if_neg (show ¬ (false = true) by decide)] at H; exact H
     clear H; have H := H1; clear H1; have HC9 := Aside0.mk H; clear H; go_upto_if 16 with (fail)
     go_cut [16] (fun v16 wc => ∃ (kq : Nat) (x16_8 : Bool), v16 = .bool x16_8 ∧ Aside0 (insn_Known.j1 kq a0 x16_8 = some r) ∧ Aside0 (kq ≤ kj4) ∧ Drawn0 w wc)
     case first =>
      have H := HC9.out; clear HC9
      by_cases c10 : t101 = 4
      ·
       rw [if_pos c10] at H
       have c10b0 : (t101 == 4) = true := beq_iff_eq.mpr c10; have c10b1 : (t101 != 4) = false := bne_eq_false_iff_eq.mpr c10; clear c10; (first | rw [c10b0] | (simp only [i64_w, i32_w]; rw [c10b0]) | skip); have H' := Aside0.mk H; clear H; go_wp2; go_meet
       case rel => exact ⟨_, ((t101 == 4)), eq_, H', ⟨by have := HJ4.out; first | omega | exact Nat.le_refl _⟩, by repeat (first | exact Drawn0.refl _ | apply Drawn0.step)⟩
      ·
       rw [if_neg c10] at H
       have c10b0 : (t101 == 4) = false := beq_eq_false_iff_ne.mpr c10; have c10b1 : (t101 != 4) = true := bne_iff_ne.mpr c10; (first | rw [c10b0] | (simp only [i64_w, i32_w]; rw [c10b0]) | skip); have H' := Aside0.mk H; clear H; go_wp2; go_meet
       case rel => exact ⟨_, ((t101 == 7)), eq_, H', ⟨by have := HJ4.out; first | omega | exact Nat.le_refl _⟩, by repeat (first | exact Drawn0.refl _ | apply Drawn0.step)⟩
     case rest =>
      clear HC9; (try clear c1); (try clear p2); (try clear c3); (try clear c3b0); (try clear c3b1); (try clear c4); (try clear c6); (try clear c6b0); (try clear c6b1); (try clear c7); (try clear c7b0); (try clear c7b1); (try clear c8); (try clear c10); (try clear c10b0); (try clear c10b1); obtain ⟨kq, x16_8, rfl, HA, HJ8, ⟨mc8, rfl⟩⟩ := hcut
      cases kq with
      | zero => exact absurd HA.out (by simp [insn_Known.j1])
      | succ kj8 =>
       have H := HA.out; clear HA; simp only [insn_Known.j1] at H
       by_cases c11 : x16_8 = true
       ·
        subst c11
        have H1 : ((strings_IndexByte.f (⟨#[0, 16, 32, 48, 64, 80, 96, 112, 128, 144, 160, 176, 192]⟩ : ByteArray) (Go.bits .and .u8 a0 240)).bind fun t103 => (if t103 ≥ 0 then (if (Go.bits .and .u8 a0 240) = 128 then ((insn_ByReg.f a0).bind fun t104 => (some (!t104))) else (some true)) else (some false))) = some r := by rw [if_pos rfl] at H; exact H
        clear H; have H := H1; clear H1; replace H := Option.bind_eq_some_iff.mp H; obtain ⟨t103, A120, H⟩ := H; replace H : (if t103 ≥ 0 then (if (Go.bits .and .u8 a0 240) = 128 then ((insn_ByReg.f a0).bind fun t104 => (some (!t104))) else (some true)) else (some false)) = some r := H; have A12 := Aside0.mk A120; clear A120
        by_cases c13 : t103 ≥ 0
        ·
         rw [if_pos c13] at H
         have c13b0 : decide (0 ≤ t103) = true := decide_eq_true c13; clear c13
         by_cases c14 : (Go.bits .and .u8 a0 240) = 128
         ·
          rw [if_pos c14] at H
          have c14b0 : ((Go.bits .and .u8 a0 240) == 128) = true := beq_iff_eq.mpr c14; have c14b1 : ((Go.bits .and .u8 a0 240) != 128) = false := bne_eq_false_iff_eq.mpr c14; clear c14; replace H := Option.bind_eq_some_iff.mp H; obtain ⟨t104, A150, H⟩ := H; replace H : (some (!t104)) = some r := H; have A15 := Aside0.mk A150; clear A150; obtain rfl := Option.some.inj H; go_wp2_with (first | ((with_reducible refine gate_callee (f := 57) rfl ?_); refine goesL_ (some 21) rfl rfl Try.func57 (by kernel_rfl) rfl #[.string (⟨#[0, 16, 32, 48, 64, 80, 96, 112, 128, 144, 160, 176, 192]⟩ : ByteArray), .int .u8 (Go.bits .and .u8 a0 240)] rfl (by (try simp only [List.map_toArray, List.map_cons, List.map_nil]); first | done | rfl | (simp only [List.length_drop, List.length_take]; rfl)) ?_; (with_reducible refine (strings_IndexByte.calls (⟨#[0, 16, 32, 48, 64, 80, 96, 112, 128, 144, 160, 176, 192]⟩ : ByteArray) (Go.bits .and .u8 a0 240) t103 _ A12.out).mono ?_); rintro e w' ⟨rfl, ⟨nd, rfl⟩⟩; refine ⟨_, rfl, ?_⟩) | (go_at_call 49; (with_reducible refine (insn_ByReg.calls a0 t104 _ A15.out).mono ?_); rintro e w' ⟨rfl, ⟨nd, rfl⟩⟩))
          go_ret
          exact ⟨by first | rfl | (simp; done) | (simp [*]; done), by repeat (first | exact Drawn0.refl _ | apply Drawn0.step)⟩
         ·
          rw [if_neg c14] at H
          have c14b0 : ((Go.bits .and .u8 a0 240) == 128) = false := beq_eq_false_iff_ne.mpr c14; have c14b1 : ((Go.bits .and .u8 a0 240) != 128) = true := bne_iff_ne.mpr c14; obtain rfl := Option.some.inj H; go_wp2_with (first | ((with_reducible refine gate_callee (f := 57) rfl ?_); refine goesL_ (some 21) rfl rfl Try.func57 (by kernel_rfl) rfl #[.string (⟨#[0, 16, 32, 48, 64, 80, 96, 112, 128, 144, 160, 176, 192]⟩ : ByteArray), .int .u8 (Go.bits .and .u8 a0 240)] rfl (by (try simp only [List.map_toArray, List.map_cons, List.map_nil]); first | done | rfl | (simp only [List.length_drop, List.length_take]; rfl)) ?_; (with_reducible refine (strings_IndexByte.calls (⟨#[0, 16, 32, 48, 64, 80, 96, 112, 128, 144, 160, 176, 192]⟩ : ByteArray) (Go.bits .and .u8 a0 240) t103 _ A12.out).mono ?_); rintro e w' ⟨rfl, ⟨nd, rfl⟩⟩; refine ⟨_, rfl, ?_⟩))
          go_ret
          exact ⟨by first | rfl | (simp; done) | (simp [*]; done), by repeat (first | exact Drawn0.refl _ | apply Drawn0.step)⟩
        ·
         rw [if_neg c13] at H
         have c13b0 : decide (0 ≤ t103) = false := decide_eq_false c13; clear c13; obtain rfl := Option.some.inj H; go_wp2_with (first | ((with_reducible refine gate_callee (f := 57) rfl ?_); refine goesL_ (some 21) rfl rfl Try.func57 (by kernel_rfl) rfl #[.string (⟨#[0, 16, 32, 48, 64, 80, 96, 112, 128, 144, 160, 176, 192]⟩ : ByteArray), .int .u8 (Go.bits .and .u8 a0 240)] rfl (by (try simp only [List.map_toArray, List.map_cons, List.map_nil]); first | done | rfl | (simp only [List.length_drop, List.length_take]; rfl)) ?_; (with_reducible refine (strings_IndexByte.calls (⟨#[0, 16, 32, 48, 64, 80, 96, 112, 128, 144, 160, 176, 192]⟩ : ByteArray) (Go.bits .and .u8 a0 240) t103 _ A12.out).mono ?_); rintro e w' ⟨rfl, ⟨nd, rfl⟩⟩; refine ⟨_, rfl, ?_⟩))
         go_ret
         exact ⟨by first | rfl | (simp; done) | (simp [*]; done), by repeat (first | exact Drawn0.refl _ | apply Drawn0.step)⟩
       ·
        replace c11 := Bool.eq_false_iff.mpr c11
        subst c11; have H1 : ((strings_IndexByte.f (⟨#[16, 32, 48, 64, 80, 96, 112, 160, 176, 192, 208]⟩ : ByteArray) (Go.bits .and .u8 a0 240)).bind fun t105 => (if t105 ≥ 0 then (some true) else (if a0 = 5 then (some true) else (if a0 = 133 then (some true) else (some (a0 == 149)))))) = some r := by rw [if_neg (show ¬ (false = true) by decide)] at H; exact H
        clear H; have H := H1; clear H1; replace H := Option.bind_eq_some_iff.mp H; obtain ⟨t105, A160, H⟩ := H; replace H : (if t105 ≥ 0 then (some true) else (if a0 = 5 then (some true) else (if a0 = 133 then (some true) else (some (a0 == 149))))) = some r := H; have A16 := Aside0.mk A160; clear A160
        by_cases c17 : t105 ≥ 0
        ·
         rw [if_pos c17] at H
         have c17b0 : decide (0 ≤ t105) = true := decide_eq_true c17; clear c17; obtain rfl := Option.some.inj H; go_wp2_with (first | ((with_reducible refine gate_callee (f := 57) rfl ?_); refine goesL_ (some 35) rfl rfl Try.func57 (by kernel_rfl) rfl #[.string (⟨#[16, 32, 48, 64, 80, 96, 112, 160, 176, 192, 208]⟩ : ByteArray), .int .u8 (Go.bits .and .u8 a0 240)] rfl (by (try simp only [List.map_toArray, List.map_cons, List.map_nil]); first | done | rfl | (simp only [List.length_drop, List.length_take]; rfl)) ?_; (with_reducible refine (strings_IndexByte.calls (⟨#[16, 32, 48, 64, 80, 96, 112, 160, 176, 192, 208]⟩ : ByteArray) (Go.bits .and .u8 a0 240) t105 _ A16.out).mono ?_); rintro e w' ⟨rfl, ⟨nd, rfl⟩⟩; refine ⟨_, rfl, ?_⟩))
         go_ret
         exact ⟨by first | rfl | (simp; done) | (simp [*]; done), by repeat (first | exact Drawn0.refl _ | apply Drawn0.step)⟩
        ·
         rw [if_neg c17] at H
         have c17b0 : decide (0 ≤ t105) = false := decide_eq_false c17; clear c17
         by_cases c18 : a0 = 5
         ·
          rw [if_pos c18] at H
          have c18b0 : (a0 == 5) = true := beq_iff_eq.mpr c18; have c18b1 : (a0 != 5) = false := bne_eq_false_iff_eq.mpr c18; clear c18; obtain rfl := Option.some.inj H; go_wp2_with (first | ((with_reducible refine gate_callee (f := 57) rfl ?_); refine goesL_ (some 35) rfl rfl Try.func57 (by kernel_rfl) rfl #[.string (⟨#[16, 32, 48, 64, 80, 96, 112, 160, 176, 192, 208]⟩ : ByteArray), .int .u8 (Go.bits .and .u8 a0 240)] rfl (by (try simp only [List.map_toArray, List.map_cons, List.map_nil]); first | done | rfl | (simp only [List.length_drop, List.length_take]; rfl)) ?_; (with_reducible refine (strings_IndexByte.calls (⟨#[16, 32, 48, 64, 80, 96, 112, 160, 176, 192, 208]⟩ : ByteArray) (Go.bits .and .u8 a0 240) t105 _ A16.out).mono ?_); rintro e w' ⟨rfl, ⟨nd, rfl⟩⟩; refine ⟨_, rfl, ?_⟩))
          go_ret
          exact ⟨by first | rfl | (simp; done) | (simp [*]; done), by repeat (first | exact Drawn0.refl _ | apply Drawn0.step)⟩
         ·
          rw [if_neg c18] at H
          have c18b0 : (a0 == 5) = false := beq_eq_false_iff_ne.mpr c18; have c18b1 : (a0 != 5) = true := bne_iff_ne.mpr c18
          by_cases c19 : a0 = 133
          ·
           rw [if_pos c19] at H
           have c19b0 : (a0 == 133) = true := beq_iff_eq.mpr c19; have c19b1 : (a0 != 133) = false := bne_eq_false_iff_eq.mpr c19; clear c19; obtain rfl := Option.some.inj H; go_wp2_with (first | ((with_reducible refine gate_callee (f := 57) rfl ?_); refine goesL_ (some 35) rfl rfl Try.func57 (by kernel_rfl) rfl #[.string (⟨#[16, 32, 48, 64, 80, 96, 112, 160, 176, 192, 208]⟩ : ByteArray), .int .u8 (Go.bits .and .u8 a0 240)] rfl (by (try simp only [List.map_toArray, List.map_cons, List.map_nil]); first | done | rfl | (simp only [List.length_drop, List.length_take]; rfl)) ?_; (with_reducible refine (strings_IndexByte.calls (⟨#[16, 32, 48, 64, 80, 96, 112, 160, 176, 192, 208]⟩ : ByteArray) (Go.bits .and .u8 a0 240) t105 _ A16.out).mono ?_); rintro e w' ⟨rfl, ⟨nd, rfl⟩⟩; refine ⟨_, rfl, ?_⟩))
           go_ret
           exact ⟨by first | rfl | (simp; done) | (simp [*]; done), by repeat (first | exact Drawn0.refl _ | apply Drawn0.step)⟩
          ·
           rw [if_neg c19] at H
           have c19b0 : (a0 == 133) = false := beq_eq_false_iff_ne.mpr c19; have c19b1 : (a0 != 133) = true := bne_iff_ne.mpr c19; obtain rfl := Option.some.inj H; go_wp2_with (first | ((with_reducible refine gate_callee (f := 57) rfl ?_); refine goesL_ (some 35) rfl rfl Try.func57 (by kernel_rfl) rfl #[.string (⟨#[16, 32, 48, 64, 80, 96, 112, 160, 176, 192, 208]⟩ : ByteArray), .int .u8 (Go.bits .and .u8 a0 240)] rfl (by (try simp only [List.map_toArray, List.map_cons, List.map_nil]); first | done | rfl | (simp only [List.length_drop, List.length_take]; rfl)) ?_; (with_reducible refine (strings_IndexByte.calls (⟨#[16, 32, 48, 64, 80, 96, 112, 160, 176, 192, 208]⟩ : ByteArray) (Go.bits .and .u8 a0 240) t105 _ A16.out).mono ?_); rintro e w' ⟨rfl, ⟨nd, rfl⟩⟩; refine ⟨_, rfl, ?_⟩))
           go_ret
           exact ⟨by first | rfl | (simp; done) | (simp [*]; done), by repeat (first | exact Drawn0.refl _ | apply Drawn0.step)⟩

/-! ### insn_Kind: function 50 -/
def insn_Kind.f (a0 : Int) : Option (Int) := some (wrap64 (Go.bits .and .u8 a0 240))
set_option maxHeartbeats 8000000 in
set_option maxRecDepth 100000 in
theorem insn_Kind.calls (a0 : Int) (r : Int) (w : World) (h : insn_Kind.f a0 = some r) :
  Calls Try.prog 50 #[.int .u8 a0] w fun e w' => e = .returned (.int .i64 r) ∧ Drawn0 w w' := by
 have H : (some (wrap64 (Go.bits .and .u8 a0 240))) = some r := h; clear h; obtain rfl := Option.some.inj H; go_enter Try.func50, Try.ntmps50
 go_wp2; go_ret
 exact ⟨by first | rfl | (simp; done) | (simp [*]; done), by repeat (first | exact Drawn0.refl _ | apply Drawn0.step)⟩

end Go.Proofs.Ytmijlibnembkaaa.PA
