/- The second machine's laws: words that move a number's part, and what they are read as. -/
import Derived.Test.YtbepakbjinhjcaaGreatDoorKa
namespace Go.Proofs.YtbepakbjinhjcaaGreatDoor.W23
open Go Go.Proofs.YtbepakbjinhjcaaGreatDoor.Ev
set_option linter.unusedVariables false
set_option linter.unusedSimpArgs false
noncomputable section
theorem land_mask (x lo n : Nat) : x &&& ((2 ^ n - 1) * 2 ^ lo) = x / 2 ^ lo % 2 ^ n * 2 ^ lo := by
  apply Nat.eq_of_testBit_eq
  intro i
  simp only [Nat.testBit_and, Nat.testBit_mul_two_pow, Nat.testBit_two_pow_sub_one, Nat.testBit_mod_two_pow, Nat.testBit_div_two_pow]
  by_cases h : lo ≤ i
  · by_cases h2 : i - lo < n
    · have : i - lo + lo = i := by omega
      simp [h, h2, this]
    · simp [h, h2]
  · simp [h]
theorem land_low (x n : Nat) : x &&& (2 ^ n - 1) = x % 2 ^ n := Nat.and_two_pow_sub_one_eq_mod x n
theorem beq_of {a b : Nat} (h : a = b) : Nat.beq a b = true := by subst h; simp
theorem nbeq_of {a b : Nat} (h : a ≠ b) : (bif Nat.beq a b then false else true) = true := by
  cases hb : Nat.beq a b with
  | false => rfl
  | true => exact absurd (Nat.eq_of_beq_eq_true hb) h
/-- What is read: an instruction that moves a part. -/
def ai (op kind : Nat) (wide : Bool) (rd rn rm ra imm : Nat) : AV := .tuple [.agg [.int .i64 (.ofNat op), .int .i64 (.ofNat kind), .bool wide, .int .i64 (.ofNat rd), .int .i64 (.ofNat rn), .int .i64 (.ofNat rm), .int .i64 (.ofNat ra), .int .i64 (.ofNat 0), .int .i64 (.ofNat imm)], .int .i64 (.ofNat 0)]
def decO (x : Nat) : Way3 := tabO Tryz.prog 300 7 okl T1 30 12 [.int .u32 (.ofNat x)]
def movV (op x : Nat) : AV := .tuple [.agg [.int .i64 (.ofNat op), .int .i64 (wrapQ .i64 (.ofNat (Nat.mod (Nat.land (Nat.div x 2097152) 3) 4294967296))), .bool (Nat.beq (Nat.div x 2147483648) 1), .int .i64 (wrapQ .i64 (.ofNat (Nat.mod (Nat.land x 31) 4294967296))), .int .i64 (.ofNat 0), .int .i64 (.ofNat 0), .int .i64 (.ofNat 0), .int .i64 (.ofNat 0), .int .i64 (wrapQ .i64 (.ofNat (Nat.mod (Nat.land (Nat.div x 32) 65535) 4294967296)))], .int .i64 (.ofNat 0)]
set_option maxRecDepth 1000000
theorem movz_run (x : Nat) : flwC (decO x) [(2, true), (8, true)] [] = some (movV 0 x, [Nat.beq (Nat.div x 2147483648) 1, Nat.beq (Nat.mod (Nat.land x 2139095040) 4294967296) 1384120320]) := by kernel_rfl
theorem movk_run (x : Nat) : flwC (decO x) [(2, false), (2, true), (8, true)] [] = some (movV 1 x, [Nat.beq (Nat.div x 2147483648) 1, Nat.beq (Nat.mod (Nat.land x 2139095040) 4294967296) 1920991232, bif Nat.beq (Nat.mod (Nat.land x 2139095040) 4294967296) 1384120320 then false else true]) := by kernel_rfl
theorem w64 {n : Nat} (h : n < 9223372036854775808) : wrapQ .i64 (.ofNat n) = .ofNat n := by
  have : Nat.ble 9223372036854775808 n = false := by
    cases hb : Nat.ble 9223372036854775808 n with
    | false => rfl
    | true => have := Nat.le_of_ble_eq_true hb; omega
  show wS 9223372036854775808 .i64 (.ofNat n) = _
  simp only [wS, this, cond_false]
theorem mov_val {op x kind rd imm : Nat} (h1 : x / 2147483648 = 1) (h2 : x / 2097152 % 4 = kind) (h3 : x % 32 = rd) (h4 : x / 32 % 65536 = imm) : movV op x = ai op kind true rd 0 0 0 imm := by
  have e1 : Nat.mod (Nat.land (Nat.div x 2097152) 3) 4294967296 = kind := by
    show ((x / 2097152) &&& (2 ^ 2 - 1)) % 4294967296 = kind
    rw [land_low]; omega
  have e2 : Nat.mod (Nat.land x 31) 4294967296 = rd := by
    show (x &&& (2 ^ 5 - 1)) % 4294967296 = rd
    rw [land_low]; omega
  have e3 : Nat.mod (Nat.land (Nat.div x 32) 65535) 4294967296 = imm := by
    show ((x / 32) &&& (2 ^ 16 - 1)) % 4294967296 = imm
    rw [land_low]; omega
  have e4 : Nat.beq (Nat.div x 2147483648) 1 = true := beq_of h1
  unfold movV ai
  rw [e1, e2, e3, e4, w64 (by omega), w64 (by omega), w64 (by omega)]
theorem mask31 (x : Nat) (h : x < 4294967296) : Nat.mod (Nat.land x 2139095040) 4294967296 = x / 8388608 % 256 * 8388608 := by
  show (x &&& ((2 ^ 8 - 1) * 2 ^ 23)) % 4294967296 = _
  rw [land_mask]; omega
/-- The word that moves n to register r; part k of it. -/
def zw (r n : Nat) : Nat := 3531603968 + r + 32 * n
def kw (k r n : Nat) : Nat := 4068474880 + 2097152 * k + r + 32 * n
theorem movz {r n : Nat} (hr : r < 32) (hn : n < 65536) : ∃ s, DD Tryz.prog 300 okl (TSs T1) 30 12 = some s ∧ s [] 0 [.int .u32 (.ofNat (zw r n))] (fun v _ _ => some v) = some (ai 0 0 true r 0 0 0 n) := by
  have hx : zw r n = 3531603968 + r + 32 * n := rfl
  generalize zw r n = x at hx
  rw [← mov_val (op := 0) (x := x) (kind := 0) (rd := r) (imm := n) (by omega) (by omega) (by omega) (by omega)]
  refine tabO_run (by decide) (movz_run x) fun t ht => ?_
  simp only [List.mem_cons, List.not_mem_nil, or_false] at ht
  rcases ht with rfl | rfl
  · exact beq_of (by show x / 2147483648 = 1; omega)
  · rw [mask31 x (by omega)]; exact beq_of (by omega)
theorem movk {k r n : Nat} (hk : k < 4) (hr : r < 32) (hn : n < 65536) : ∃ s, DD Tryz.prog 300 okl (TSs T1) 30 12 = some s ∧ s [] 0 [.int .u32 (.ofNat (kw k r n))] (fun v _ _ => some v) = some (ai 1 k true r 0 0 0 n) := by
  have hx : kw k r n = 4068474880 + 2097152 * k + r + 32 * n := rfl
  generalize kw k r n = x at hx
  rw [← mov_val (op := 1) (x := x) (kind := k) (rd := r) (imm := n) (by omega) (by omega) (by omega) (by omega)]
  refine tabO_run (by decide) (movk_run x) fun t ht => ?_
  simp only [List.mem_cons, List.not_mem_nil, or_false] at ht
  rcases ht with rfl | rfl | rfl
  · exact beq_of (by show x / 2147483648 = 1; omega)
  · rw [mask31 x (by omega)]; exact beq_of (by omega)
  · rw [mask31 x (by omega)]; exact nbeq_of (by omega)
end
end Go.Proofs.YtbepakbjinhjcaaGreatDoor.W23
