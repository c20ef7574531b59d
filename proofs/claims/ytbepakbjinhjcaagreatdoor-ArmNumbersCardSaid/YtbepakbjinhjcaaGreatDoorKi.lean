/- ArmNumbers: numbers, signs and flags. -/
import Derived.Test.YtbepakbjinhjcaaGreatDoorKg
import Derived.Test.YtbepakbjinhjcaaGreatDoorKf
namespace Go.Proofs.YtbepakbjinhjcaaGreatDoor.W23
open Go Go.RowKit Go.Proofs.YtbepakbjinhjcaaGreatDoor.Ev
set_option linter.unusedVariables false
set_option linter.unusedSimpArgs false
noncomputable section
theorem eqQ_nat (a b : Nat) : eqQ (.ofNat a) (.ofNat b) = decide (a = b) := by
  rw [Bool.eq_iff_iff, decide_eq_true_iff]
  exact ⟨fun h => Nat.eq_of_beq_eq_true h, fun h => by subst h; exact eqQ_self _⟩
theorem ltQ_nat (a b : Nat) : ltQ (.ofNat a) (.ofNat b) = decide (a < b) := by
  rw [ltQ_eq, Bool.eq_iff_iff, decide_eq_true_iff, decide_eq_true_iff]
  exact Int.ofNat_lt
theorem wrap_u64 (n : Int) : IntKind.u64.wrap n = n % 18446744073709551616 := by
  simp only [IntKind.wrap, show IntKind.u64.signed = false from rfl, show (2 : Int) ^ IntKind.u64.bits = 18446744073709551616 from by decide, Bool.false_and, Bool.false_eq_true, if_false]
theorem wrap_i64 (n : Int) : IntKind.i64.wrap n = if 9223372036854775808 ≤ n % 18446744073709551616 then n % 18446744073709551616 - 18446744073709551616 else n % 18446744073709551616 := by
  simp only [IntKind.wrap, show IntKind.i64.signed = true from rfl, show (2 : Int) ^ IntKind.i64.bits = 18446744073709551616 from by decide, show (2 : Int) ^ (IntKind.i64.bits - 1) = 9223372036854775808 from by decide, Bool.true_and, decide_eq_true_eq, ge_iff_le]
theorem wrap_i32 (n : Int) : IntKind.i32.wrap n = if 2147483648 ≤ n % 4294967296 then n % 4294967296 - 4294967296 else n % 4294967296 := by
  simp only [IntKind.wrap, show IntKind.i32.signed = true from rfl, show (2 : Int) ^ IntKind.i32.bits = 4294967296 from by decide, show (2 : Int) ^ (IntKind.i32.bits - 1) = 2147483648 from by decide, Bool.true_and, decide_eq_true_eq, ge_iff_le]
/-- The difference. -/
def dif (N a b : Nat) : Nat := if b ≤ a then a - b else a + N - b
theorem sub_nat {a b : Nat} (ha : a < 18446744073709551616) (hb : b < 18446744073709551616) : subV (.ofNat a) (.ofNat b) = .ofNat (dif 18446744073709551616 a b) := by
  unfold subV dif
  rw [wrapQ_eq, subQ_eq, wrap_u64]
  split
  · rename_i h
    have : (Int.ofNat a - Int.ofNat b) = ((a - b : Nat) : Int) := by simp only [Int.ofNat_eq_natCast]; omega
    rw [this]
    exact Int.emod_eq_of_lt (by omega) (by omega)
  · rename_i h
    have : (Int.ofNat a - Int.ofNat b) = ((a + 18446744073709551616 - b : Nat) : Int) + 18446744073709551616 * (-1) := by simp only [Int.ofNat_eq_natCast]; omega
    rw [this, Int.add_mul_emod_self_left]
    exact Int.emod_eq_of_lt (by omega) (by omega)
theorem bit_nat {n X : Nat} (hn : n ≤ 64) : bitV n (.ofNat X) = X.testBit n := by
  unfold bitV
  rw [shr64 X (2 ^ n) rfl hn, and64, eqQ_nat, Nat.testBit_eq_decide_div_mod_eq, Nat.and_one_is_mod, m1 (by omega)]
theorem ov_nat {n a b u : Nat} (hn : n < 64) : ovV n (.ofNat a) (.ofNat b) (.ofNat u) = ((a.testBit n != b.testBit n) && (a.testBit n != u.testBit n)) := by
  unfold ovV
  have e : (18446744073709551616 : Nat) = 2 ^ 64 := by decide
  rw [xor64, xor64, and64, bit_nat (Nat.le_of_lt hn), e]
  simp only [Nat.testBit_mod_two_pow, Nat.testBit_and, Nat.testBit_xor, hn, decide_true, Bool.true_and]
theorem top_bit {n a : Nat} (h : a < 2 ^ n * 2) : a.testBit n = decide (2 ^ n ≤ a) := by
  rw [Nat.testBit_eq_decide_div_mod_eq, Bool.eq_iff_iff, decide_eq_true_iff, decide_eq_true_iff]
  have hp : 0 < 2 ^ n := Nat.pow_pos (by decide)
  generalize 2 ^ n = H at h hp
  constructor
  · intro g
    rcases Nat.lt_or_ge a H with c | c
    · rw [Nat.div_eq_of_lt c] at g; cases g
    · exact c
  · intro c
    have : a / H = 1 := by
      apply Nat.div_eq_of_lt_le <;> omega
    rw [this]
/-- A number with a sign. -/
def sg (H a : Nat) : Int := if a < H then (a : Int) else (a : Int) - (H : Int) * 2
theorem flags {H a b : Nat} (ha : a < H * 2) (hb : b < H * 2) : (decide (H ≤ dif (H * 2) a b) == ((decide (H ≤ a) != decide (H ≤ b)) && (decide (H ≤ a) != decide (H ≤ dif (H * 2) a b)))) = !decide (sg H a < sg H b) := by
  have hv : (b ≤ a ∧ dif (H * 2) a b = a - b) ∨ (a < b ∧ dif (H * 2) a b = a + H * 2 - b) := by unfold dif; split <;> omega
  have hx : (a < H ∧ sg H a = a) ∨ (H ≤ a ∧ sg H a = (a : Int) - (H : Int) * 2) := by unfold sg; split <;> omega
  have hy : (b < H ∧ sg H b = b) ∨ (H ≤ b ∧ sg H b = (b : Int) - (H : Int) * 2) := by unfold sg; split <;> omega
  generalize dif (H * 2) a b = v at hv
  generalize sg H a = x at hx
  generalize sg H b = y at hy
  by_cases h1 : H ≤ a <;> by_cases h2 : H ≤ b <;> by_cases h3 : H ≤ v <;> by_cases h4 : x < y <;> first
    | (simp [h1, h2, h3, h4]; done)
    | (exfalso; omega)
/-- What the choices ask of two numbers. -/
structure Asks (t : At) (a b : Nat) (sa sb : Int) : Prop where
  e : t.e = decide (a = b)
  l : t.l = decide (a < b)
  g : t.g = decide (b < a)
  x : t.x = decide (sa < sb)
  y : t.y = decide (sb < sa)
  z : t.z = decide (a = b)
  k : t.k = decide (a < b)
  so : (t.s == t.o) = !decide (sa < sb)
  one : a = b ↔ sa = sb
theorem i64_sg {A : Nat} (h : A < 18446744073709551616) : i64 A = sg 9223372036854775808 A := by
  unfold i64 sg
  rw [wrapQ_eq, wrap_i64]
  have h2 : (Int.ofNat A) % 18446744073709551616 = A := Int.emod_eq_of_lt (by simp) (by simp only [Int.ofNat_eq_natCast]; omega)
  rw [h2]
  split <;> split <;> omega
theorem asksW {A B : Nat} (hA : A < 18446744073709551616) (hB : B < 18446744073709551616) : Asks (atW A B) A B (sg 9223372036854775808 A) (sg 9223372036854775808 B) := by
  have hp : (2 : Nat) ^ 63 = 9223372036854775808 := by decide
  have ha : A < 9223372036854775808 * 2 := hA
  have hb : B < 9223372036854775808 * 2 := hB
  have hd : dif 18446744073709551616 A B < 9223372036854775808 * 2 := by unfold dif; split <;> omega
  refine ⟨eqQ_nat A B, ltQ_nat A B, ltQ_nat B A, ?_, ?_, ?_, ?_, ?_, ?_⟩
  · show ltQ (i64 A) (i64 B) = _; rw [i64_sg hA, i64_sg hB, ltQ_eq]
  · show ltQ (i64 B) (i64 A) = _; rw [i64_sg hA, i64_sg hB, ltQ_eq]
  · show eqQ (subV (regQ A) (regQ B)) (.ofNat 0) = _
    rw [reg_eq hA, reg_eq hB, sub_nat hA hB, eqQ_nat]
    rw [Bool.eq_iff_iff, decide_eq_true_iff, decide_eq_true_iff]
    unfold dif; split <;> omega
  · show ltQ (regQ A) (regQ B) = _; rw [reg_eq hA, reg_eq hB, ltQ_nat]
  · show (bitV 63 (subV (regQ A) (regQ B)) == ovV 63 (regQ A) (regQ B) (subV (regQ A) (regQ B))) = _
    rw [reg_eq hA, reg_eq hB, sub_nat hA hB, bit_nat (by decide), ov_nat (by decide), top_bit (a := A) (by rw [hp]; exact ha), top_bit (a := B) (by rw [hp]; exact hb), top_bit (a := dif 18446744073709551616 A B) (by rw [hp]; exact hd), hp]
    exact flags ha hb
  · unfold sg; split <;> split <;> omega
theorem i32_sg (A : Nat) : i32 A = sg 2147483648 (A % 4294967296) := by
  unfold i32 sg
  have ha : A % 4294967296 < 4294967296 := Nat.mod_lt _ (by decide)
  rw [wu32, wrapQ_eq, wrapQ_eq, wrap_i32]
  generalize A % 4294967296 = a at ha
  have h2 : (Int.ofNat a) % 4294967296 = a := Int.emod_eq_of_lt (by simp) (by simp only [Int.ofNat_eq_natCast]; omega)
  rw [h2, wrap_i64]
  by_cases h : a < 2147483648
  · rw [if_pos h, if_neg (show ¬ (2147483648 : Int) ≤ (a : Int) by omega)]
    have h3 : (a : Int) % 18446744073709551616 = a := Int.emod_eq_of_lt (by omega) (by omega)
    rw [h3, if_neg (by omega)]
  · rw [if_neg h, if_pos (show (2147483648 : Int) ≤ (a : Int) by omega)]
    have h3 : ((a : Int) - 4294967296) % 18446744073709551616 = (a : Int) - 4294967296 + 18446744073709551616 := by
      rw [← Int.add_mul_emod_self_left _ _ 1]
      exact Int.emod_eq_of_lt (by omega) (by omega)
    rw [h3, if_pos (by omega)]
    omega
theorem asksN {A B : Nat} (hA : A < 18446744073709551616) (hB : B < 18446744073709551616) : Asks (atN A B) (A % 4294967296) (B % 4294967296) (sg 2147483648 (A % 4294967296)) (sg 2147483648 (B % 4294967296)) := by
  have hp : (2 : Nat) ^ 31 = 2147483648 := by decide
  have x1 : ltQ (i32 A) (i32 B) = decide (sg 2147483648 (A % 4294967296) < sg 2147483648 (B % 4294967296)) := by rw [i32_sg, i32_sg, ltQ_eq]
  have x2 : ltQ (i32 B) (i32 A) = decide (sg 2147483648 (B % 4294967296) < sg 2147483648 (A % 4294967296)) := by rw [i32_sg, i32_sg, ltQ_eq]
  have ha : A % 4294967296 < 2147483648 * 2 := Nat.mod_lt _ (by decide)
  have hb : B % 4294967296 < 2147483648 * 2 := Nat.mod_lt _ (by decide)
  have lA := lo_reg hA
  have lB := lo_reg hB
  have wA := low_nat A
  have wB := low_nat B
  generalize A % 4294967296 = a at *
  generalize B % 4294967296 = b at *
  have ha' : a < 18446744073709551616 := by omega
  have hb' : b < 18446744073709551616 := by omega
  have hv : dif 18446744073709551616 a b % 4294967296 = dif (2147483648 * 2) a b := by unfold dif; split <;> omega
  have hd : dif (2147483648 * 2) a b < 2147483648 * 2 := by unfold dif; split <;> omega
  have lv : lo (.ofNat (dif 18446744073709551616 a b)) = .ofNat (dif (2147483648 * 2) a b) := by
    unfold lo
    rw [wu32, wu64, hv, m1 (by omega)]
  have ub : (dif 18446744073709551616 a b).testBit 31 = (dif (2147483648 * 2) a b).testBit 31 := by
    rw [← hv]
    have : (4294967296 : Nat) = 2 ^ 32 := by decide
    rw [this, Nat.testBit_mod_two_pow]
    simp
  refine ⟨?_, ?_, ?_, x1, x2, ?_, ?_, ?_, ?_⟩
  · show eqQ (low A) (low B) = _; rw [wA, wB, eqQ_nat]
  · show ltQ (low A) (low B) = _; rw [wA, wB, ltQ_nat]
  · show ltQ (low B) (low A) = _; rw [wA, wB, ltQ_nat]
  · show eqQ (lo (subV (lo (regQ A)) (lo (regQ B)))) (.ofNat 0) = _
    rw [lA, lB, sub_nat ha' hb', lv, eqQ_nat]
    rw [Bool.eq_iff_iff, decide_eq_true_iff, decide_eq_true_iff]
    unfold dif; split <;> omega
  · show ltQ (lo (regQ A)) (lo (regQ B)) = _; rw [lA, lB, ltQ_nat]
  · show (bitV 31 (lo (subV (lo (regQ A)) (lo (regQ B)))) == ovV 31 (lo (regQ A)) (lo (regQ B)) (subV (lo (regQ A)) (lo (regQ B)))) = _
    rw [lA, lB, sub_nat ha' hb', lv, bit_nat (by decide), ov_nat (by decide), ub, top_bit (a := a) (by rw [hp]; exact ha), top_bit (a := b) (by rw [hp]; exact hb), top_bit (a := dif (2147483648 * 2) a b) (by rw [hp]; exact hd), hp]
    exact flags ha hb
  · unfold sg; split <;> split <;> omega
/-- Five ways. -/
theorem ways {t : At} {a b : Nat} {sa sb : Int} (h : Asks t a b sa sb) :
    (∀ u ∈ lawEE t ++ finEE t, u = true) ∨ (∀ u ∈ lawLL t ++ finLL t, u = true) ∨ (∀ u ∈ lawLG t ++ finLG t, u = true) ∨ (∀ u ∈ lawGL t ++ finGL t, u = true) ∨ (∀ u ∈ lawGG t ++ finGG t, u = true) := by
  obtain ⟨e, l, g, x, y, z, k, so, one⟩ := h
  rcases Nat.lt_trichotomy a b with c | c | c
  · have n : ¬ a = b := by omega
    have n2 : ¬ b < a := by omega
    have n3 : sa ≠ sb := fun q => n (one.2 q)
    rcases Int.lt_or_gt_of_ne n3 with d | d
    · have n4 : ¬ sb < sa := by omega
      refine .inr (.inl ?_)
      simp [lawLL, finLL, e, l, g, x, y, z, k, so, c, d, n, n2, n4]
    · have n4 : ¬ sa < sb := by omega
      refine .inr (.inr (.inl ?_))
      simp [lawLG, finLG, e, l, g, x, y, z, k, so, c, d, n, n2, n4]
  · have d := one.1 c
    refine .inl ?_
    simp [lawEE, finEE, e, l, g, x, y, z, k, so, c, d]
  · have n : ¬ a = b := by omega
    have n2 : ¬ a < b := by omega
    have n3 : sa ≠ sb := fun q => n (one.2 q)
    rcases Int.lt_or_gt_of_ne n3 with d | d
    · have n4 : ¬ sb < sa := by omega
      refine .inr (.inr (.inr (.inl ?_)))
      simp [lawGL, finGL, e, l, g, x, y, z, k, so, c, d, n, n2, n4]
    · have n4 : ¬ sa < sb := by omega
      refine .inr (.inr (.inr (.inr ?_)))
      simp [lawGG, finGG, e, l, g, x, y, z, k, so, c, d, n, n2, n4]
theorem clX_not (A B : Nat) (w : Bool) : ∀ p ∈ parts A B, ∀ c ∈ clX w, (Int.ofNat p.h) ≠ c := parts_not fun c hc => by
  cases w <;> simp only [clX, cW, cond_true, cond_false, List.mem_cons, List.not_mem_nil, or_false] at hc <;>
  rcases hc with rfl | rfl | rfl | rfl | rfl | rfl | rfl | rfl | rfl | rfl | rfl | rfl | rfl | rfl | rfl | rfl | rfl | rfl | rfl | rfl | rfl | rfl | rfl <;> exact ⟨_, rfl, by decide⟩
theorem all_true {w : Bool} {A B : Nat} {m f : List Bool} (h : ∀ u ∈ m ++ f, u = true) : ∀ u ∈ allC w A B m f, u = true :=
  conds (clX_not A B w) (fun u hu => h u (List.mem_append_left _ hu)) fun u hu => h u (List.mem_append_right _ hu)
theorem num_reads (w : Bool) : ∀ p ∈ hnum w, flat 3 p.2 = true ∧ Reads p.1 p.2 := by
  intro p hp
  cases w <;> (simp only [hnum, cW, cond_true, cond_false, List.mem_cons, List.not_mem_nil, or_false] at hp; rcases hp with rfl | rfl | rfl | rfl | rfl | rfl | rfl | rfl | rfl | rfl | rfl | rfl | rfl | rfl | rfl | rfl | rfl | rfl | rfl | rfl | rfl | rfl | rfl <;> exact ⟨rfl, tabS_run (W := 7) (by decide) (by kernel_rfl)⟩)
theorem T5_ok (A B : Nat) (w : Bool) {R : Type} : Sound Tryz.prog (TSs (T5 A B w) : Specs R) := by
  refine tab_cons (.inl (reads_sound (by simp [hnum]) fun p hp => ?_)) T3_ok
  rcases List.mem_append.1 hp with hp | hp
  · exact num_reads w p hp
  · exact hmov_reads A B p hp
end
end Go.Proofs.YtbepakbjinhjcaaGreatDoor.W23
