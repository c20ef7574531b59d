/- Two numbers in registers: bytes and back, differences, signs and flags. -/
import Derived.Test.YtipigcgegmedeaaGreatXf
import Derived.OpenShut
namespace Go.Proofs.YtipigcgegmedeaaGreat.W21
open Go Go.RowKit Go.Proofs.YtipigcgegmedeaaGreat.Ev
set_option linter.unusedVariables false
set_option linter.unusedSimpArgs false
noncomputable section
/-- A number in eight bytes, and read again. -/
def sV (v : Int) : Int := wrapQ .i64 v
def byV (v : Int) (s : Nat) : Int := wrapQ .u8 (shrQ .u64 (wrapQ .u64 v) (.ofNat s))
def numV (f : Nat → Int) : Int := orQ .u64 (orQ .u64 (orQ .u64 (orQ .u64 (orQ .u64 (orQ .u64 (orQ .u64 (orQ .u64 (.ofNat 0) (shlQ .u64 (wrapQ .u64 (f 0)) (.ofNat 0))) (shlQ .u64 (wrapQ .u64 (f 8)) (.ofNat 8))) (shlQ .u64 (wrapQ .u64 (f 16)) (.ofNat 16))) (shlQ .u64 (wrapQ .u64 (f 24)) (.ofNat 24))) (shlQ .u64 (wrapQ .u64 (f 32)) (.ofNat 32))) (shlQ .u64 (wrapQ .u64 (f 40)) (.ofNat 40))) (shlQ .u64 (wrapQ .u64 (f 48)) (.ofNat 48))) (shlQ .u64 (wrapQ .u64 (f 56)) (.ofNat 56))
def immV (v : Int) : Int := shrQ .i64 (wrapQ .i64 (shlQ .u64 (numV (byV (sV v))) (.ofNat 0))) (.ofNat 0)
def regV (v : Int) : Int := wrapQ .u64 (immV v)
def strV (p q : Nat) (v : Int) : List UInt8 := [UInt8.ofNat p, UInt8.ofNat q, UInt8.ofNat (byV v 0).toNat, UInt8.ofNat (byV v 8).toNat, UInt8.ofNat (byV v 16).toNat, UInt8.ofNat (byV v 24).toNat, UInt8.ofNat (byV v 32).toNat, UInt8.ofNat (byV v 40).toNat, UInt8.ofNat (byV v 48).toNat, UInt8.ofNat (byV v 56).toNat]
/-- The bytes are written again as they were read. -/
def sameV (p q : Nat) (v : Int) : Bool := bif !(strV p q (immV v) == strV p q (sV v)) then false else true
def lowV (v : Int) : Int := wrapQ .u64 (wrapQ .u32 v)
theorem or_add' {b q : Nat} (i : Nat) (hq : q = 2 ^ i) (a : Nat) (h : b < q) : b ||| (a * q) = a * q + b := by
  subst hq
  rw [Nat.or_comm, Nat.mul_comm]; exact (Nat.two_pow_add_eq_or_of_lt h a).symm
theorem or64 (x y : Nat) : orQ .u64 (.ofNat x) (.ofNat y) = .ofNat ((x ||| y) % 18446744073709551616) := rfl
theorem and64 (x y : Nat) : andQ .u64 (.ofNat x) (.ofNat y) = .ofNat ((x &&& y) % 18446744073709551616) := rfl
theorem wu8 (x : Nat) : wrapQ .u8 (.ofNat x) = .ofNat (x % 256) := rfl
theorem wu32 (x : Nat) : wrapQ .u32 (.ofNat x) = .ofNat (x % 4294967296) := rfl
theorem wu64 (x : Nat) : wrapQ .u64 (.ofNat x) = .ofNat (x % 18446744073709551616) := rfl
theorem m1 {x : Nat} (h : x < 18446744073709551616) : x % 18446744073709551616 = x := Nat.mod_eq_of_lt h
theorem shl64 (x : Nat) {s : Nat} (q : Nat) (hq : q = 2 ^ s) (h : s ≤ 64) : shlQ .u64 (.ofNat x) (.ofNat s) = .ofNat (x * q % 18446744073709551616) := by
  subst hq
  have : lowQ .u64 s = s := by rw [lowQ_eq]; exact Nat.min_eq_left h
  exact congrArg (fun z => wrapQ .u64 (Int.ofNat (Nat.mul x (Nat.pow 2 z)))) this
theorem shr64 (x : Nat) {s : Nat} (q : Nat) (hq : q = 2 ^ s) (h : s ≤ 64) : shrQ .u64 (.ofNat x) (.ofNat s) = .ofNat (x / q) := by
  subst hq
  have : lowQ .u64 s = s := by rw [lowQ_eq]; exact Nat.min_eq_left h
  exact congrArg (fun z => Int.ofNat (Nat.div x (Nat.pow 2 z))) this
theorem wrap_u64 (n : Int) : IntKind.u64.wrap n = n % 18446744073709551616 := by
  simp only [IntKind.wrap, show IntKind.u64.signed = false from rfl, show (2 : Int) ^ IntKind.u64.bits = 18446744073709551616 from by decide, Bool.false_and, Bool.false_eq_true, if_false]
theorem wrap_i64 (n : Int) : IntKind.i64.wrap n = if 9223372036854775808 ≤ n % 18446744073709551616 then n % 18446744073709551616 - 18446744073709551616 else n % 18446744073709551616 := by
  simp only [IntKind.wrap, show IntKind.i64.signed = true from rfl, show (2 : Int) ^ IntKind.i64.bits = 18446744073709551616 from by decide, show (2 : Int) ^ (IntKind.i64.bits - 1) = 9223372036854775808 from by decide, Bool.true_and, decide_eq_true_eq, ge_iff_le]
theorem u_s {A : Nat} (h : A < 18446744073709551616) : wrapQ .u64 (sV (.ofNat A)) = .ofNat A := by
  unfold sV
  rw [wrapQ_eq, wrapQ_eq, wrap_i64, wrap_u64]
  have h2 : (Int.ofNat A) % 18446744073709551616 = A := Int.emod_eq_of_lt (by simp) (by simp only [Int.ofNat_eq_natCast]; omega)
  rw [h2]
  split
  · rw [← Int.add_mul_emod_self_left _ _ 1]
    have e : (A : Int) - 18446744073709551616 + 18446744073709551616 * 1 = A := by omega
    rw [e]; exact h2
  · exact h2
theorem by_eq {A s : Nat} (q : Nat) (hq : q = 2 ^ s) (hs : s ≤ 64) (h : A < 18446744073709551616) : byV (sV (.ofNat A)) s = .ofNat (A / q % 256) := by
  unfold byV
  rw [u_s h, shr64 A q hq hs, wu8]
theorem s1 {x : Nat} (q : Nat) (h : q ≤ 72057594037927936) : x % 256 % 18446744073709551616 * q % 18446744073709551616 = x % 256 * q := by
  have h1 : x % 256 < 256 := Nat.mod_lt _ (by decide)
  generalize x % 256 = y at h1
  rw [Nat.mod_eq_of_lt (show y < 18446744073709551616 by omega)]
  apply m1
  have : y * q ≤ 255 * q := Nat.mul_le_mul_right q (by omega)
  omega
theorem p0 (A : Nat) : (0 ||| A / 1 % 256 * 1) % 18446744073709551616 = A % 256 := by rw [Nat.zero_or]; omega
theorem p1 (A : Nat) : (A / 256 % 256 * 256 + A % 256) % 18446744073709551616 = A % 65536 := by omega
theorem p2 (A : Nat) : (A / 65536 % 256 * 65536 + A % 65536) % 18446744073709551616 = A % 16777216 := by omega
theorem p3 (A : Nat) : (A / 16777216 % 256 * 16777216 + A % 16777216) % 18446744073709551616 = A % 4294967296 := by omega
theorem p4 (A : Nat) : (A / 4294967296 % 256 * 4294967296 + A % 4294967296) % 18446744073709551616 = A % 1099511627776 := by omega
theorem p5 (A : Nat) : (A / 1099511627776 % 256 * 1099511627776 + A % 1099511627776) % 18446744073709551616 = A % 281474976710656 := by omega
theorem p6 (A : Nat) : (A / 281474976710656 % 256 * 281474976710656 + A % 281474976710656) % 18446744073709551616 = A % 72057594037927936 := by omega
theorem p7 {A : Nat} (h : A < 18446744073709551616) : (A / 72057594037927936 % 256 * 72057594037927936 + A % 72057594037927936) % 18446744073709551616 = A := by omega
theorem num_eq {A : Nat} (h : A < 18446744073709551616) : numV (byV (sV (.ofNat A))) = .ofNat A := by
  unfold numV
  rw [by_eq 1 (by decide) (by decide) h, by_eq 256 (by decide) (by decide) h, by_eq 65536 (by decide) (by decide) h, by_eq 16777216 (by decide) (by decide) h, by_eq 4294967296 (by decide) (by decide) h, by_eq 1099511627776 (by decide) (by decide) h, by_eq 281474976710656 (by decide) (by decide) h, by_eq 72057594037927936 (by decide) (by decide) h]
  simp only [wu64]
  rw [shl64 _ 1 (by decide) (by decide), shl64 _ 256 (by decide) (by decide), shl64 _ 65536 (by decide) (by decide), shl64 _ 16777216 (by decide) (by decide), shl64 _ 4294967296 (by decide) (by decide), shl64 _ 1099511627776 (by decide) (by decide), shl64 _ 281474976710656 (by decide) (by decide), shl64 _ 72057594037927936 (by decide) (by decide)]
  rw [s1 1 (by decide), s1 256 (by decide), s1 65536 (by decide), s1 16777216 (by decide), s1 4294967296 (by decide), s1 1099511627776 (by decide), s1 281474976710656 (by decide), s1 72057594037927936 (by decide)]
  rw [or64, p0, or64, or_add' 8 (by decide) _ (Nat.mod_lt A (by decide)), p1, or64, or_add' 16 (by decide) _ (Nat.mod_lt A (by decide)), p2, or64, or_add' 24 (by decide) _ (Nat.mod_lt A (by decide)), p3, or64, or_add' 32 (by decide) _ (Nat.mod_lt A (by decide)), p4, or64, or_add' 40 (by decide) _ (Nat.mod_lt A (by decide)), p5, or64, or_add' 48 (by decide) _ (Nat.mod_lt A (by decide)), p6, or64, or_add' 56 (by decide) _ (Nat.mod_lt A (by decide)), p7 h]
theorem imm_eq {A : Nat} (h : A < 18446744073709551616) : immV (.ofNat A) = sV (.ofNat A) := by
  unfold immV
  rw [num_eq h, shl64 A 1 (by decide) (by decide), Nat.mul_one, m1 h, shrQ_eq]
  show Int.fdiv _ (2 ^ 0) = _
  rw [Int.pow_zero, Int.fdiv_one]
  rfl
theorem reg_eq {A : Nat} (h : A < 18446744073709551616) : regV (.ofNat A) = .ofNat A := by
  unfold regV
  rw [imm_eq h, u_s h]
theorem same_true {A : Nat} (p q : Nat) (h : A < 18446744073709551616) : sameV p q (.ofNat A) = true := by
  unfold sameV
  rw [imm_eq h, beq_self_eq_true]
  rfl
theorem eqQ_nat (a b : Nat) : eqQ (.ofNat a) (.ofNat b) = decide (a = b) := by
  rw [Bool.eq_iff_iff, decide_eq_true_iff]
  exact ⟨fun h => Nat.eq_of_beq_eq_true h, fun h => by subst h; rw [eqQ_eq]; simp⟩
theorem ltQ_nat (a b : Nat) : ltQ (.ofNat a) (.ofNat b) = decide (a < b) := by
  rw [ltQ_eq, Bool.eq_iff_iff, decide_eq_true_iff, decide_eq_true_iff]
  exact Int.ofNat_lt
theorem low_eq (x : Nat) : lowV (.ofNat x) = .ofNat (x % 4294967296) := by
  unfold lowV; rw [wu32, wu64, m1 (by omega)]
theorem xor64 (x y : Nat) : xorQ .u64 (.ofNat x) (.ofNat y) = .ofNat ((x ^^^ y) % 18446744073709551616) := rfl
def subV (a b : Int) : Int := wrapQ .u64 (subQ a b)
def bitV (n : Nat) (v : Int) : Bool := eqQ (andQ .u64 (shrQ .u64 v (.ofNat n)) (.ofNat 1)) (.ofNat 1)
def ovV (n : Nat) (a b u : Int) : Bool := bitV n (andQ .u64 (xorQ .u64 a b) (xorQ .u64 a u))
def topV (v : Int) : Bool := eqQ (shrQ .u64 v (.ofNat 63)) (.ofNat 1)
def low (A : Nat) : Int := andQ .u64 (.ofNat A) (.ofNat 4294967295)
def i64 (A : Nat) : Int := wrapQ .i64 (.ofNat A)
def i32 (A : Nat) : Int := wrapQ .i64 (wrapQ .i32 (wrapQ .u32 (.ofNat A)))
theorem wrap_i32 (n : Int) : IntKind.i32.wrap n = if 2147483648 ≤ n % 4294967296 then n % 4294967296 - 4294967296 else n % 4294967296 := by
  simp only [IntKind.wrap, show IntKind.i32.signed = true from rfl, show (2 : Int) ^ IntKind.i32.bits = 4294967296 from by decide, show (2 : Int) ^ (IntKind.i32.bits - 1) = 2147483648 from by decide, Bool.true_and, decide_eq_true_eq, ge_iff_le]
/-- The difference. -/
def dif (N a b : Nat) : Nat := if b ≤ a then a - b else a + N - b
theorem sub_nat {a b : Nat} (ha : a < 18446744073709551616) (hb : b < 18446744073709551616) : subV (.ofNat a) (.ofNat b) = .ofNat (dif 18446744073709551616 a b) := by
  unfold subV dif
  rw [wrapQ_eq, subQ_eq, wrap_u64]
  split
  · rename_i h
    have : (Int.ofNat a - Int.ofNat b) = ((a - b : Nat) : Int) := by simp only [Int.ofNat_eq_natCast]; omega
    rw [this]
    exact Int.emod_eq_of_lt (by omega) (by omega)
  · rename_i h
    have : (Int.ofNat a - Int.ofNat b) = ((a + 18446744073709551616 - b : Nat) : Int) + 18446744073709551616 * (-1) := by simp only [Int.ofNat_eq_natCast]; omega
    rw [this, Int.add_mul_emod_self_left]
    exact Int.emod_eq_of_lt (by omega) (by omega)
theorem bit_nat {n X : Nat} (hn : n ≤ 64) : bitV n (.ofNat X) = X.testBit n := by
  unfold bitV
  rw [shr64 X (2 ^ n) rfl hn, and64, eqQ_nat, Nat.testBit_eq_decide_div_mod_eq, Nat.and_one_is_mod, m1 (by omega)]
theorem ov_nat {n a b u : Nat} (hn : n < 64) : ovV n (.ofNat a) (.ofNat b) (.ofNat u) = ((a.testBit n != b.testBit n) && (a.testBit n != u.testBit n)) := by
  unfold ovV
  have e : (18446744073709551616 : Nat) = 2 ^ 64 := by decide
  rw [xor64, xor64, and64, bit_nat (Nat.le_of_lt hn), e]
  simp only [Nat.testBit_mod_two_pow, Nat.testBit_and, Nat.testBit_xor, hn, decide_true, Bool.true_and]
theorem top_bit {n a : Nat} (h : a < 2 ^ n * 2) : a.testBit n = decide (2 ^ n ≤ a) := by
  rw [Nat.testBit_eq_decide_div_mod_eq, Bool.eq_iff_iff, decide_eq_true_iff, decide_eq_true_iff]
  have hp : 0 < 2 ^ n := Nat.pow_pos (by decide)
  generalize 2 ^ n = H at h hp
  constructor
  · intro g
    rcases Nat.lt_or_ge a H with c | c
    · rw [Nat.div_eq_of_lt c] at g; cases g
    · exact c
  · intro c
    have : a / H = 1 := by
      apply Nat.div_eq_of_lt_le <;> omega
    rw [this]
/-- A number with a sign. -/
def sg (H a : Nat) : Int := if a < H then (a : Int) else (a : Int) - (H : Int) * 2
theorem flags {H a b : Nat} (ha : a < H * 2) (hb : b < H * 2) : (decide (H ≤ dif (H * 2) a b) == ((decide (H ≤ a) != decide (H ≤ b)) && (decide (H ≤ a) != decide (H ≤ dif (H * 2) a b)))) = !decide (sg H a < sg H b) := by
  have hv : (b ≤ a ∧ dif (H * 2) a b = a - b) ∨ (a < b ∧ dif (H * 2) a b = a + H * 2 - b) := by unfold dif; split <;> omega
  have hx : (a < H ∧ sg H a = a) ∨ (H ≤ a ∧ sg H a = (a : Int) - (H : Int) * 2) := by unfold sg; split <;> omega
  have hy : (b < H ∧ sg H b = b) ∨ (H ≤ b ∧ sg H b = (b : Int) - (H : Int) * 2) := by unfold sg; split <;> omega
  generalize dif (H * 2) a b = v at hv
  generalize sg H a = x at hx
  generalize sg H b = y at hy
  by_cases h1 : H ≤ a <;> by_cases h2 : H ≤ b <;> by_cases h3 : H ≤ v <;> by_cases h4 : x < y <;> first
    | (simp [h1, h2, h3, h4]; done)
    | (exfalso; omega)
theorem land32 (x : Nat) : x &&& 4294967295 = x % 4294967296 := Nat.and_two_pow_sub_one_eq_mod x 32
theorem i64_sg {A : Nat} (h : A < 18446744073709551616) : i64 A = sg 9223372036854775808 A := by
  unfold i64 sg
  rw [wrapQ_eq, wrap_i64]
  have h2 : (Int.ofNat A) % 18446744073709551616 = A := Int.emod_eq_of_lt (by simp) (by simp only [Int.ofNat_eq_natCast]; omega)
  rw [h2]
  split <;> split <;> omega
theorem i32_sg (A : Nat) : i32 A = sg 2147483648 (A % 4294967296) := by
  unfold i32 sg
  have ha : A % 4294967296 < 4294967296 := Nat.mod_lt _ (by decide)
  rw [wu32, wrapQ_eq, wrapQ_eq, wrap_i32]
  generalize A % 4294967296 = a at ha
  have h2 : (Int.ofNat a) % 4294967296 = a := Int.emod_eq_of_lt (by simp) (by simp only [Int.ofNat_eq_natCast]; omega)
  rw [h2, wrap_i64]
  by_cases h : a < 2147483648
  · rw [if_pos h, if_neg (show ¬ (2147483648 : Int) ≤ (a : Int) by omega)]
    have h3 : (a : Int) % 18446744073709551616 = a := Int.emod_eq_of_lt (by omega) (by omega)
    rw [h3, if_neg (by omega)]
  · rw [if_neg h, if_pos (show (2147483648 : Int) ≤ (a : Int) by omega)]
    have h3 : ((a : Int) - 4294967296) % 18446744073709551616 = (a : Int) - 4294967296 + 18446744073709551616 := by
      rw [← Int.add_mul_emod_self_left _ _ 1]
      exact Int.emod_eq_of_lt (by omega) (by omega)
    rw [h3, if_pos (by omega)]
    omega
/-- What the choices ask: equal, less, greater, less and greater with signs; the machine's own: zero, less, the sign, the overflow. -/
structure At where
  e : Bool
  l : Bool
  g : Bool
  x : Bool
  y : Bool
  z : Bool
  k : Bool
  s : Bool
  o : Bool
def rV (A : Nat) : Int := regV (.ofNat A)
def lV (A : Nat) : Int := lowV (rV A)
def mV (A : Nat) : Int := lowV (lV A)
def atW (A B : Nat) : At := ⟨eqQ (.ofNat A) (.ofNat B), ltQ (.ofNat A) (.ofNat B), ltQ (.ofNat B) (.ofNat A), ltQ (i64 A) (i64 B), ltQ (i64 B) (i64 A), eqQ (subV (rV A) (rV B)) (.ofNat 0), ltQ (rV A) (rV B), topV (subV (rV A) (rV B)), topV (andQ .u64 (xorQ .u64 (rV A) (rV B)) (xorQ .u64 (rV A) (subV (rV A) (rV B))))⟩
def atN (A B : Nat) : At := ⟨eqQ (low A) (low B), ltQ (low A) (low B), ltQ (low B) (low A), ltQ (i32 A) (i32 B), ltQ (i32 B) (i32 A), eqQ (lowV (subV (lV A) (mV B))) (.ofNat 0), ltQ (lV A) (mV B), bitV 31 (lowV (subV (lV A) (mV B))), ovV 31 (lV A) (mV B) (subV (lV A) (mV B))⟩
def condEE (t : At) (a b : Bool) : List Bool := [t.z, t.z, bif !(!t.s == t.o) == false then false else true, !(!t.s == t.o) == true, !t.z == false, bif t.k then false else true, bif !t.z == true then false else true, bif t.k then false else true, !t.z == false, bif !t.z == true then false else true, bif !t.k == false then false else true, !t.k == true, b, a, bif t.y then false else true, bif t.y then false else true, bif t.x then false else true, bif t.x then false else true, bif t.g then false else true, bif t.g then false else true, bif bif t.e then false else true then false else true, t.e, bif t.l then false else true, bif t.l then false else true]
def oEEw : List (Nat × Bool) := [(406, false), (3, true), (4, true), (4, false), (3, true), (4, false), (3, false), (3, true), (4, true), (4, false), (1324, false), (145, false), (406, true), (262, false), (410, false), (410, true), (264, false), (2, false), (411, false), (2, true), (266, true), (266, false), (413, true), (418, true)]
def oEEn : List (Nat × Bool) := [(406, false), (3, true), (4, true), (4, false), (3, true), (4, false), (3, false), (3, true), (4, true), (4, false), (1324, false), (145, false), (407, true), (263, false), (411, false), (411, true), (265, false), (2, false), (412, false), (2, true), (267, true), (267, false), (414, true), (419, true)]
def condLL (t : At) (a b : Bool) : List Bool := [!(!t.s == t.o) == false, bif t.z then false else true, bif !(!t.s == t.o) == true then false else true, bif t.z then false else true, !(!t.s == t.o) == false, bif !(!t.s == t.o) == true then false else true, t.k, t.k, bif !t.z == false then false else true, !t.z == true, !t.k == false, bif !t.k == true then false else true, b, a, bif t.y then false else true, bif t.y then false else true, bif bif t.x then false else true then false else true, t.x, bif t.g then false else true, bif t.g then false else true, bif t.e then false else true, bif t.e then false else true, bif bif t.l then false else true then false else true, t.l]
def oLLw : List (Nat × Bool) := [(406, true), (4, false), (3, false), (3, true), (4, true), (4, false), (3, true), (4, false), (3, true), (4, false), (1324, false), (145, false), (406, false), (409, true), (263, true), (263, false), (411, true), (413, true), (268, false), (413, true), (266, false), (6, false), (413, false), (6, true)]
def oLLn : List (Nat × Bool) := [(406, true), (4, false), (3, false), (3, true), (4, true), (4, false), (3, true), (4, false), (3, true), (4, false), (1324, false), (145, false), (407, false), (410, true), (264, true), (264, false), (412, true), (414, true), (269, false), (414, true), (267, false), (6, false), (414, false), (6, true)]
def condLG (t : At) (a b : Bool) : List Bool := [bif !(!t.s == t.o) == false then false else true, bif t.z then false else true, !(!t.s == t.o) == true, bif t.z then false else true, bif !(!t.s == t.o) == false then false else true, !(!t.s == t.o) == true, t.k, t.k, bif !t.z == false then false else true, !t.z == true, !t.k == false, bif !t.k == true then false else true, b, a, t.y, bif bif t.y then false else true then false else true, bif t.x then false else true, bif t.x then false else true, bif t.g then false else true, bif t.g then false else true, bif t.e then false else true, bif t.e then false else true, bif bif t.l then false else true then false else true, t.l]
def oLGw : List (Nat × Bool) := [(406, true), (4, false), (3, false), (3, true), (4, true), (4, false), (3, false), (3, true), (4, false), (3, true), (1325, false), (145, false), (406, false), (409, true), (263, true), (263, false), (411, true), (413, true), (268, true), (266, false), (413, false), (6, true), (266, false), (6, false)]
def oLGn : List (Nat × Bool) := [(406, true), (4, false), (3, false), (3, true), (4, true), (4, false), (3, false), (3, true), (4, false), (3, true), (1325, false), (145, false), (407, false), (410, true), (264, true), (264, false), (412, true), (414, true), (269, true), (267, false), (414, false), (6, true), (267, false), (6, false)]
def condGL (t : At) (a b : Bool) : List Bool := [!(!t.s == t.o) == false, bif t.z then false else true, bif !(!t.s == t.o) == true then false else true, bif t.z then false else true, !(!t.s == t.o) == false, bif !(!t.s == t.o) == true then false else true, bif !t.z == false then false else true, bif t.k then false else true, !t.z == true, bif t.k then false else true, bif !t.z == false then false else true, !t.z == true, bif !t.k == false then false else true, !t.k == true, b, a, bif t.y then false else true, bif t.y then false else true, bif bif t.x then false else true then false else true, t.x, t.g, bif bif t.g then false else true then false else true, bif t.e then false else true, bif t.e then false else true, bif t.l then false else true, bif t.l then false else true]
def oGLw : List (Nat × Bool) := [(406, false), (3, true), (4, false), (3, true), (4, false), (3, true), (4, true), (4, false), (3, true), (4, false), (1324, false), (145, false), (406, true), (262, false), (410, true), (263, false), (411, false), (2, true), (264, false), (2, false), (413, false), (413, true), (266, false), (6, false), (413, false), (6, true)]
def oGLn : List (Nat × Bool) := [(406, false), (3, true), (4, false), (3, true), (4, false), (3, true), (4, true), (4, false), (3, true), (4, false), (1324, false), (145, false), (407, true), (263, false), (411, true), (264, false), (412, false), (2, true), (265, false), (2, false), (414, false), (414, true), (267, false), (6, false), (414, false), (6, true)]
def condGG (t : At) (a b : Bool) : List Bool := [bif !(!t.s == t.o) == false then false else true, bif t.z then false else true, !(!t.s == t.o) == true, bif t.z then false else true, bif !(!t.s == t.o) == false then false else true, !(!t.s == t.o) == true, bif !t.z == false then false else true, bif t.k then false else true, !t.z == true, bif t.k then false else true, bif !t.z == false then false else true, !t.z == true, bif !t.k == false then false else true, !t.k == true, b, a, t.y, bif bif t.y then false else true then false else true, bif t.x then false else true, bif t.x then false else true, t.g, bif bif t.g then false else true then false else true, bif t.e then false else true, bif t.e then false else true, bif t.l then false else true, bif t.l then false else true]
def oGGw : List (Nat × Bool) := [(406, false), (3, true), (4, false), (3, true), (4, false), (3, true), (4, false), (3, true), (4, false), (3, true), (1325, false), (145, false), (406, true), (262, false), (410, true), (263, false), (411, false), (2, true), (264, false), (2, false), (413, true), (266, false), (413, false), (6, true), (266, false), (6, false)]
def oGGn : List (Nat × Bool) := [(406, false), (3, true), (4, false), (3, true), (4, false), (3, true), (4, false), (3, true), (4, false), (3, true), (1325, false), (145, false), (407, true), (263, false), (411, true), (264, false), (412, false), (2, true), (265, false), (2, false), (414, true), (267, false), (414, false), (6, true), (267, false), (6, false)]
theorem rV_eq {A : Nat} (h : A < 18446744073709551616) : rV A = .ofNat A := reg_eq h
theorem lV_eq {A : Nat} (h : A < 18446744073709551616) : lV A = .ofNat (A % 4294967296) := by unfold lV; rw [rV_eq h, low_eq]
theorem mV_eq {A : Nat} (h : A < 18446744073709551616) : mV A = .ofNat (A % 4294967296) := by unfold mV; rw [lV_eq h, low_eq, Nat.mod_mod]
theorem low_nat (A : Nat) : low A = .ofNat (A % 4294967296) := by
  unfold low
  rw [and64, land32, m1 (by omega)]
theorem topV_nat {X : Nat} (h : X < 18446744073709551616) : topV (.ofNat X) = X.testBit 63 := by
  unfold topV
  rw [shr64 X (2 ^ 63) rfl (by decide), eqQ_nat, Nat.testBit_eq_decide_div_mod_eq]
  have e : X / 2 ^ 63 < 2 := Nat.div_lt_of_lt_mul (by have : (2 : Nat) ^ 63 * 2 = 18446744073709551616 := by decide
                                                      omega)
  rw [Nat.mod_eq_of_lt e]
/-- What the choices ask of two numbers. -/
structure Asks (t : At) (a b : Nat) (sa sb : Int) : Prop where
  e : t.e = decide (a = b)
  l : t.l = decide (a < b)
  g : t.g = decide (b < a)
  x : t.x = decide (sa < sb)
  y : t.y = decide (sb < sa)
  z : t.z = decide (a = b)
  k : t.k = decide (a < b)
  so : (t.s == t.o) = !decide (sa < sb)
  one : a = b ↔ sa = sb
theorem asksW {A B : Nat} (hA : A < 18446744073709551616) (hB : B < 18446744073709551616) : Asks (atW A B) A B (sg 9223372036854775808 A) (sg 9223372036854775808 B) := by
  have hp : (2 : Nat) ^ 63 = 9223372036854775808 := by decide
  have ha : A < 9223372036854775808 * 2 := hA
  have hb : B < 9223372036854775808 * 2 := hB
  have hd : dif 18446744073709551616 A B < 9223372036854775808 * 2 := by unfold dif; split <;> omega
  have e : (18446744073709551616 : Nat) = 2 ^ 64 := by decide
  refine ⟨eqQ_nat A B, ltQ_nat A B, ltQ_nat B A, ?_, ?_, ?_, ?_, ?_, ?_⟩
  · show ltQ (i64 A) (i64 B) = _; rw [i64_sg hA, i64_sg hB, ltQ_eq]
  · show ltQ (i64 B) (i64 A) = _; rw [i64_sg hA, i64_sg hB, ltQ_eq]
  · show eqQ (subV (rV A) (rV B)) (.ofNat 0) = _
    rw [rV_eq hA, rV_eq hB, sub_nat hA hB, eqQ_nat]
    rw [Bool.eq_iff_iff, decide_eq_true_iff, decide_eq_true_iff]
    unfold dif; split <;> omega
  · show ltQ (rV A) (rV B) = _; rw [rV_eq hA, rV_eq hB, ltQ_nat]
  · show (topV (subV (rV A) (rV B)) == topV (andQ .u64 (xorQ .u64 (rV A) (rV B)) (xorQ .u64 (rV A) (subV (rV A) (rV B))))) = _
    rw [rV_eq hA, rV_eq hB, sub_nat hA hB, xor64, xor64, and64, topV_nat hd, topV_nat (Nat.mod_lt _ (by decide))]
    have hx : ((A ^^^ B) % 18446744073709551616 &&& (A ^^^ dif 18446744073709551616 A B) % 18446744073709551616) % 18446744073709551616 = ((A ^^^ B) % 2 ^ 64 &&& (A ^^^ dif 18446744073709551616 A B) % 2 ^ 64) % 2 ^ 64 := by rw [← e]
    rw [hx]
    simp only [Nat.testBit_mod_two_pow, Nat.testBit_and, Nat.testBit_xor, show (63 : Nat) < 64 from by decide, decide_true, Bool.true_and]
    rw [top_bit (a := A) (by rw [hp]; exact ha), top_bit (a := B) (by rw [hp]; exact hb), top_bit (a := dif 18446744073709551616 A B) (by rw [hp]; exact hd), hp]
    exact flags ha hb
  · unfold sg; split <;> split <;> omega
theorem asksN {A B : Nat} (hA : A < 18446744073709551616) (hB : B < 18446744073709551616) : Asks (atN A B) (A % 4294967296) (B % 4294967296) (sg 2147483648 (A % 4294967296)) (sg 2147483648 (B % 4294967296)) := by
  have hp : (2 : Nat) ^ 31 = 2147483648 := by decide
  have x1 : ltQ (i32 A) (i32 B) = decide (sg 2147483648 (A % 4294967296) < sg 2147483648 (B % 4294967296)) := by rw [i32_sg, i32_sg, ltQ_eq]
  have x2 : ltQ (i32 B) (i32 A) = decide (sg 2147483648 (B % 4294967296) < sg 2147483648 (A % 4294967296)) := by rw [i32_sg, i32_sg, ltQ_eq]
  have ha : A % 4294967296 < 2147483648 * 2 := Nat.mod_lt _ (by decide)
  have hb : B % 4294967296 < 2147483648 * 2 := Nat.mod_lt _ (by decide)
  have lA := lV_eq hA
  have lB := mV_eq hB
  have wA := low_nat A
  have wB := low_nat B
  generalize A % 4294967296 = a at *
  generalize B % 4294967296 = b at *
  have ha' : a < 18446744073709551616 := by omega
  have hb' : b < 18446744073709551616 := by omega
  have hv : dif 18446744073709551616 a b % 4294967296 = dif (2147483648 * 2) a b := by unfold dif; split <;> omega
  have hd : dif (2147483648 * 2) a b < 2147483648 * 2 := by unfold dif; split <;> omega
  have lv : lowV (.ofNat (dif 18446744073709551616 a b)) = .ofNat (dif (2147483648 * 2) a b) := by rw [low_eq, hv]
  have ub : (dif 18446744073709551616 a b).testBit 31 = (dif (2147483648 * 2) a b).testBit 31 := by
    rw [← hv]
    have : (4294967296 : Nat) = 2 ^ 32 := by decide
    rw [this, Nat.testBit_mod_two_pow]
    simp
  refine ⟨?_, ?_, ?_, x1, x2, ?_, ?_, ?_, ?_⟩
  · show eqQ (low A) (low B) = _; rw [wA, wB, eqQ_nat]
  · show ltQ (low A) (low B) = _; rw [wA, wB, ltQ_nat]
  · show ltQ (low B) (low A) = _; rw [wA, wB, ltQ_nat]
  · show eqQ (lowV (subV (lV A) (mV B))) (.ofNat 0) = _
    rw [lA, lB, sub_nat ha' hb', lv, eqQ_nat]
    rw [Bool.eq_iff_iff, decide_eq_true_iff, decide_eq_true_iff]
    unfold dif; split <;> omega
  · show ltQ (lV A) (mV B) = _; rw [lA, lB, ltQ_nat]
  · show (bitV 31 (lowV (subV (lV A) (mV B))) == ovV 31 (lV A) (mV B) (subV (lV A) (mV B))) = _
    rw [lA, lB, sub_nat ha' hb', lv, bit_nat (by decide), ov_nat (by decide), ub, top_bit (a := a) (by rw [hp]; exact ha), top_bit (a := b) (by rw [hp]; exact hb), top_bit (a := dif (2147483648 * 2) a b) (by rw [hp]; exact hd), hp]
    exact flags ha hb
  · unfold sg; split <;> split <;> omega
/-- Five ways. -/
theorem ways {t : At} {a b : Nat} {sa sb : Int} (h : Asks t a b sa sb) :
    (∀ u ∈ condEE t true true, u = true) ∨ (∀ u ∈ condLL t true true, u = true) ∨ (∀ u ∈ condLG t true true, u = true) ∨ (∀ u ∈ condGL t true true, u = true) ∨ (∀ u ∈ condGG t true true, u = true) := by
  obtain ⟨e, l, g, x, y, z, k, so, one⟩ := h
  rcases Nat.lt_trichotomy a b with c | c | c
  · have n : ¬ a = b := by omega
    have n2 : ¬ b < a := by omega
    have n3 : sa ≠ sb := fun q => n (one.2 q)
    rcases Int.lt_or_gt_of_ne n3 with d | d
    · have n4 : ¬ sb < sa := by omega
      refine .inr (.inl ?_)
      simp [condLL, e, l, g, x, y, z, k, so, c, d, n, n2, n4]
    · have n4 : ¬ sa < sb := by omega
      refine .inr (.inr (.inl ?_))
      simp [condLG, e, l, g, x, y, z, k, so, c, d, n, n2, n4]
  · have d := one.1 c
    refine .inl ?_
    simp [condEE, e, l, g, x, y, z, k, so, c, d]
  · have n : ¬ a = b := by omega
    have n2 : ¬ a < b := by omega
    have n3 : sa ≠ sb := fun q => n (one.2 q)
    rcases Int.lt_or_gt_of_ne n3 with d | d
    · have n4 : ¬ sb < sa := by omega
      refine .inr (.inr (.inr (.inl ?_)))
      simp [condGL, e, l, g, x, y, z, k, so, c, d, n, n2, n4]
    · have n4 : ¬ sa < sb := by omega
      refine .inr (.inr (.inr (.inr ?_)))
      simp [condGG, e, l, g, x, y, z, k, so, c, d, n, n2, n4]
end
end Go.Proofs.YtipigcgegmedeaaGreat.W21
