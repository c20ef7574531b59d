/- XsixSums: the law, for every input. -/
import Derived.Test.YtipigcgegmedeaaGreatXc
import Derived.OpenShut
namespace Go.Proofs.YtipigcgegmedeaaGreat.W21
open Go Go.RowKit Go.Proofs.YtipigcgegmedeaaGreat.Ev
set_option linter.unusedVariables false
set_option linter.unusedSimpArgs false
noncomputable section
theorem or_add' {b q : Nat} (i : Nat) (hq : q = 2 ^ i) (a : Nat) (h : b < q) : b ||| (a * q) = a * q + b := by
  subst hq
  rw [Nat.or_comm, Nat.mul_comm]; exact (Nat.two_pow_add_eq_or_of_lt h a).symm
theorem or64 (x y : Nat) : orQ .u64 (.ofNat x) (.ofNat y) = .ofNat ((x ||| y) % 18446744073709551616) := rfl
theorem and64 (x y : Nat) : andQ .u64 (.ofNat x) (.ofNat y) = .ofNat ((x &&& y) % 18446744073709551616) := rfl
theorem wu8 (x : Nat) : wrapQ .u8 (.ofNat x) = .ofNat (x % 256) := rfl
theorem wu32 (x : Nat) : wrapQ .u32 (.ofNat x) = .ofNat (x % 4294967296) := rfl
theorem wu64 (x : Nat) : wrapQ .u64 (.ofNat x) = .ofNat (x % 18446744073709551616) := rfl
theorem m1 {x : Nat} (h : x < 18446744073709551616) : x % 18446744073709551616 = x := Nat.mod_eq_of_lt h
theorem shl64 (x : Nat) {s : Nat} (q : Nat) (hq : q = 2 ^ s) (h : s ≤ 64) : shlQ .u64 (.ofNat x) (.ofNat s) = .ofNat (x * q % 18446744073709551616) := by
  subst hq
  have : lowQ .u64 s = s := by rw [lowQ_eq]; exact Nat.min_eq_left h
  exact congrArg (fun z => wrapQ .u64 (Int.ofNat (Nat.mul x (Nat.pow 2 z)))) this
theorem shr64 (x : Nat) {s : Nat} (q : Nat) (hq : q = 2 ^ s) (h : s ≤ 64) : shrQ .u64 (.ofNat x) (.ofNat s) = .ofNat (x / q) := by
  subst hq
  have : lowQ .u64 s = s := by rw [lowQ_eq]; exact Nat.min_eq_left h
  exact congrArg (fun z => Int.ofNat (Nat.div x (Nat.pow 2 z))) this
theorem wrap_u64 (n : Int) : IntKind.u64.wrap n = n % 18446744073709551616 := by
  simp only [IntKind.wrap, show IntKind.u64.signed = false from rfl, show (2 : Int) ^ IntKind.u64.bits = 18446744073709551616 from by decide, Bool.false_and, Bool.false_eq_true, if_false]
theorem wrap_i64 (n : Int) : IntKind.i64.wrap n = if 9223372036854775808 ≤ n % 18446744073709551616 then n % 18446744073709551616 - 18446744073709551616 else n % 18446744073709551616 := by
  simp only [IntKind.wrap, show IntKind.i64.signed = true from rfl, show (2 : Int) ^ IntKind.i64.bits = 18446744073709551616 from by decide, show (2 : Int) ^ (IntKind.i64.bits - 1) = 9223372036854775808 from by decide, Bool.true_and, decide_eq_true_eq, ge_iff_le]
theorem u_s {A : Nat} (h : A < 18446744073709551616) : wrapQ .u64 (sV (.ofNat A)) = .ofNat A := by
  unfold sV
  rw [wrapQ_eq, wrapQ_eq, wrap_i64, wrap_u64]
  have h2 : (Int.ofNat A) % 18446744073709551616 = A := Int.emod_eq_of_lt (by simp) (by simp only [Int.ofNat_eq_natCast]; omega)
  rw [h2]
  split
  · rw [← Int.add_mul_emod_self_left _ _ 1]
    have e : (A : Int) - 18446744073709551616 + 18446744073709551616 * 1 = A := by omega
    rw [e]; exact h2
  · exact h2
theorem by_eq {A s : Nat} (q : Nat) (hq : q = 2 ^ s) (hs : s ≤ 64) (h : A < 18446744073709551616) : byV (sV (.ofNat A)) s = .ofNat (A / q % 256) := by
  unfold byV
  rw [u_s h, shr64 A q hq hs, wu8]
theorem s1 {x : Nat} (q : Nat) (h : q ≤ 72057594037927936) : x % 256 % 18446744073709551616 * q % 18446744073709551616 = x % 256 * q := by
  have h1 : x % 256 < 256 := Nat.mod_lt _ (by decide)
  generalize x % 256 = y at h1
  rw [Nat.mod_eq_of_lt (show y < 18446744073709551616 by omega)]
  apply m1
  have : y * q ≤ 255 * q := Nat.mul_le_mul_right q (by omega)
  omega
theorem p0 (A : Nat) : (0 ||| A / 1 % 256 * 1) % 18446744073709551616 = A % 256 := by rw [Nat.zero_or]; omega
theorem p1 (A : Nat) : (A / 256 % 256 * 256 + A % 256) % 18446744073709551616 = A % 65536 := by omega
theorem p2 (A : Nat) : (A / 65536 % 256 * 65536 + A % 65536) % 18446744073709551616 = A % 16777216 := by omega
theorem p3 (A : Nat) : (A / 16777216 % 256 * 16777216 + A % 16777216) % 18446744073709551616 = A % 4294967296 := by omega
theorem p4 (A : Nat) : (A / 4294967296 % 256 * 4294967296 + A % 4294967296) % 18446744073709551616 = A % 1099511627776 := by omega
theorem p5 (A : Nat) : (A / 1099511627776 % 256 * 1099511627776 + A % 1099511627776) % 18446744073709551616 = A % 281474976710656 := by omega
theorem p6 (A : Nat) : (A / 281474976710656 % 256 * 281474976710656 + A % 281474976710656) % 18446744073709551616 = A % 72057594037927936 := by omega
theorem p7 {A : Nat} (h : A < 18446744073709551616) : (A / 72057594037927936 % 256 * 72057594037927936 + A % 72057594037927936) % 18446744073709551616 = A := by omega
theorem num_eq {A : Nat} (h : A < 18446744073709551616) : numV (byV (sV (.ofNat A))) = .ofNat A := by
  unfold numV
  rw [by_eq 1 (by decide) (by decide) h, by_eq 256 (by decide) (by decide) h, by_eq 65536 (by decide) (by decide) h, by_eq 16777216 (by decide) (by decide) h, by_eq 4294967296 (by decide) (by decide) h, by_eq 1099511627776 (by decide) (by decide) h, by_eq 281474976710656 (by decide) (by decide) h, by_eq 72057594037927936 (by decide) (by decide) h]
  simp only [wu64]
  rw [shl64 _ 1 (by decide) (by decide), shl64 _ 256 (by decide) (by decide), shl64 _ 65536 (by decide) (by decide), shl64 _ 16777216 (by decide) (by decide), shl64 _ 4294967296 (by decide) (by decide), shl64 _ 1099511627776 (by decide) (by decide), shl64 _ 281474976710656 (by decide) (by decide), shl64 _ 72057594037927936 (by decide) (by decide)]
  rw [s1 1 (by decide), s1 256 (by decide), s1 65536 (by decide), s1 16777216 (by decide), s1 4294967296 (by decide), s1 1099511627776 (by decide), s1 281474976710656 (by decide), s1 72057594037927936 (by decide)]
  rw [or64, p0, or64, or_add' 8 (by decide) _ (Nat.mod_lt A (by decide)), p1, or64, or_add' 16 (by decide) _ (Nat.mod_lt A (by decide)), p2, or64, or_add' 24 (by decide) _ (Nat.mod_lt A (by decide)), p3, or64, or_add' 32 (by decide) _ (Nat.mod_lt A (by decide)), p4, or64, or_add' 40 (by decide) _ (Nat.mod_lt A (by decide)), p5, or64, or_add' 48 (by decide) _ (Nat.mod_lt A (by decide)), p6, or64, or_add' 56 (by decide) _ (Nat.mod_lt A (by decide)), p7 h]
theorem imm_eq {A : Nat} (h : A < 18446744073709551616) : immV (.ofNat A) = sV (.ofNat A) := by
  unfold immV
  rw [num_eq h, shl64 A 1 (by decide) (by decide), Nat.mul_one, m1 h, shrQ_eq]
  show Int.fdiv _ (2 ^ 0) = _
  rw [Int.pow_zero, Int.fdiv_one]
  rfl
theorem reg_eq {A : Nat} (h : A < 18446744073709551616) : regV (.ofNat A) = .ofNat A := by
  unfold regV
  rw [imm_eq h, u_s h]
theorem same_true {A : Nat} (p q : Nat) (h : A < 18446744073709551616) : sameV p q (.ofNat A) = true := by
  unfold sameV
  rw [imm_eq h, beq_self_eq_true]
  rfl
theorem eqQ_nat (a b : Nat) : eqQ (.ofNat a) (.ofNat b) = decide (a = b) := by
  rw [Bool.eq_iff_iff, decide_eq_true_iff]
  exact ⟨fun h => Nat.eq_of_beq_eq_true h, fun h => by subst h; rw [eqQ_eq]; simp⟩
theorem ltQ_nat (a b : Nat) : ltQ (.ofNat a) (.ofNat b) = decide (a < b) := by
  rw [ltQ_eq, Bool.eq_iff_iff, decide_eq_true_iff, decide_eq_true_iff]
  exact Int.ofNat_lt
theorem not_eq (x : Int) : notV x = xorQ .u64 x (wrapQ .u64 (-1)) := by
  unfold notV
  rw [xorQ_eq, BitVec.xor_comm]
  rfl
theorem want_eq (A B : Nat) : wantW A B = .ofNat ((A + B) % 18446744073709551616) := rfl
theorem sum_eq {A B : Nat} (hA : A < 18446744073709551616) (hB : B < 18446744073709551616) : sumW A B = .ofNat ((A + B) % 18446744073709551616) := by
  unfold sumW addN; rw [reg_eq hA, reg_eq hB]; rfl
theorem car_eq {A B : Nat} (hA : A < 18446744073709551616) (hB : B < 18446744073709551616) : carW A B = .ofNat ((A + B) / 18446744073709551616) := by
  unfold carW addN; rw [reg_eq hA, reg_eq hB]; rfl
theorem low_eq (x : Nat) : lowV (.ofNat x) = .ofNat (x % 4294967296) := by
  unfold lowV; rw [wu32, wu64, m1 (by omega)]
theorem sumN_eq {A B : Nat} (hA : A < 18446744073709551616) (hB : B < 18446744073709551616) : sumN A B = .ofNat (A % 4294967296 + B % 4294967296) := by
  unfold sumN addN
  rw [reg_eq hA, reg_eq hB, low_eq, low_eq, low_eq, Nat.mod_mod]
  show Int.ofNat ((A % 4294967296 + B % 4294967296) % 18446744073709551616) = _
  rw [m1 (by omega)]
theorem carN_eq {A B : Nat} (hA : A < 18446744073709551616) (hB : B < 18446744073709551616) : carN A B = .ofNat 0 := by
  unfold carN addN
  rw [reg_eq hA, reg_eq hB, low_eq, low_eq, low_eq, Nat.mod_mod]
  show Int.ofNat ((A % 4294967296 + B % 4294967296) / 18446744073709551616) = _
  exact congrArg Int.ofNat (by omega)
theorem land32 (x : Nat) : x &&& 4294967295 = x % 4294967296 := Nat.and_two_pow_sub_one_eq_mod x 32
theorem wantN_eq (A B : Nat) : wantN A B = .ofNat ((A + B) % 4294967296) := by
  unfold wantN
  rw [want_eq]
  show Int.ofNat (((A + B) % 18446744073709551616 &&& 4294967295) % 18446744073709551616) = _
  rw [land32]
  exact congrArg Int.ofNat (by omega)
theorem over_eq (A B : Nat) : overN A B = decide (4294967295 < A % 4294967296 + B % 4294967296) := by
  unfold overN
  have e : ∀ x : Nat, andQ .u64 (.ofNat x) 4294967295 = .ofNat (x % 4294967296) := fun x => by
    show Int.ofNat ((x &&& 4294967295) % 18446744073709551616) = _
    rw [land32, m1 (by omega)]
  rw [e, e]
  show ltQ (.ofNat 4294967295) (.ofNat ((A % 4294967296 + B % 4294967296) % 18446744073709551616)) = _
  rw [m1 (by omega), ltQ_nat]
theorem no_false {b : Bool} (h : b = false) : no b = true := by subst h; rfl
theorem runs (A B : Nat) (w : Bool) (hA : A < 18446744073709551616) (hB : B < 18446744073709551616) : ∃ s, (DD Tryz.prog 300 okl (TSs T3) 30 3 : Option (Ev.Spec AV)) = some s ∧ s [] 0 (args A B w) (fun v _ _ => some v) = some (.bool true) := by
  have sA := same_true 72 184 hA
  have sB := same_true 73 186 hB
  cases w with
  | true =>
    by_cases c : A + B < 18446744073709551616
    · have r := run_w A B
      rw [sum_eq hA hB, want_eq, car_eq hA hB, sA, sB, Nat.mod_eq_of_lt c, ltQ_nat, beq_self_eq_true] at r
      refine tabO_run (by decide) r fun t ht => ?_
      simp only [List.mem_cons, List.not_mem_nil, or_false] at ht
      rcases ht with rfl | rfl | rfl | rfl
      · rw [Nat.div_eq_of_lt c]; rfl
      · rfl
      · rfl
      · exact no_false (decide_eq_false (by omega))
    · have r := run_wc A B
      rw [sum_eq hA hB, want_eq, car_eq hA hB, sA, sB, not_eq, ltQ_nat, beq_self_eq_true] at r
      refine tabO_run (by decide) r fun t ht => ?_
      simp only [List.mem_cons, List.not_mem_nil, or_false] at ht
      rcases ht with rfl | rfl | rfl | rfl
      · have : (A + B) / 18446744073709551616 = 1 := by omega
        rw [this]; rfl
      · rfl
      · rfl
      · exact decide_eq_true (by omega)
  | false =>
    have e1 : (A % 4294967296 + B % 4294967296) % 4294967296 = (A + B) % 4294967296 := by omega
    have e2 : shrQ .u64 (.ofNat (A % 4294967296 + B % 4294967296)) 32 = .ofNat ((A % 4294967296 + B % 4294967296) / 4294967296) := shr64 _ (s := 32) 4294967296 (by decide) (by decide)
    by_cases c : 4294967295 < A % 4294967296 + B % 4294967296
    · have r := run_nc A B
      rw [sumN_eq hA hB, wantN_eq, carN_eq hA hB, sA, sB, over_eq, low_eq, e1, e2, not_eq, beq_self_eq_true] at r
      refine tabO_run (by decide) r fun t ht => ?_
      simp only [List.mem_cons, List.not_mem_nil, or_false] at ht
      rcases ht with rfl | rfl | rfl | rfl | rfl
      · have : (A % 4294967296 + B % 4294967296) / 4294967296 = 1 := by omega
        rw [this]; rfl
      · rfl
      · rfl
      · rfl
      · exact decide_eq_true c
    · have r := run_n A B
      rw [sumN_eq hA hB, wantN_eq, carN_eq hA hB, sA, sB, over_eq, low_eq, e1, e2, beq_self_eq_true] at r
      refine tabO_run (by decide) r fun t ht => ?_
      simp only [List.mem_cons, List.not_mem_nil, or_false] at ht
      rcases ht with rfl | rfl | rfl | rfl | rfl
      · have : (A % 4294967296 + B % 4294967296) / 4294967296 = 0 := by omega
        rw [this]; rfl
      · rfl
      · rfl
      · rfl
      · exact no_false (decide_eq_false c)
end
end Go.Proofs.YtipigcgegmedeaaGreat.W21
