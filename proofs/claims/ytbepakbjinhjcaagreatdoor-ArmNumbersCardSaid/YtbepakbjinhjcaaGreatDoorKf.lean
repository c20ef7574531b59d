/- ArmDivides: the law, for every input. -/
import Derived.Test.YtbepakbjinhjcaaGreatDoorKe
namespace Go.Proofs.YtbepakbjinhjcaaGreatDoor.W23
open Go Go.RowKit Go.Proofs.YtbepakbjinhjcaaGreatDoor.Ev
set_option linter.unusedVariables false
set_option linter.unusedSimpArgs false
noncomputable section
/-! ### Plain numbers -/
theorem m1 {x : Nat} (h : x < 18446744073709551616) : x % 18446744073709551616 = x := Nat.mod_eq_of_lt h
theorem m2 {x : Nat} (h : x < 4294967296) : x % 4294967296 = x := Nat.mod_eq_of_lt h
theorem quo_nat {a b : Nat} (ha : a < 18446744073709551616) : quoQ .u64 (.ofNat a) (.ofNat b) = .ofNat (a / b) := by
  show Int.ofNat (a / b % 18446744073709551616) = _
  rw [m1 (Nat.lt_of_le_of_lt (Nat.div_le_self a b) ha)]
theorem rest_nat {a b q : Nat} (ha : a < 18446744073709551616) (hq : q * b ≤ a) : rest (.ofNat a) (.ofNat b) (.ofNat q) = .ofNat (a - q * b) := by
  have e : wrapQ .u64 (mulQ (.ofNat q) (.ofNat b)) = .ofNat (q * b) := by
    show Int.ofNat (q * b % 18446744073709551616) = _
    rw [m1 (Nat.lt_of_le_of_lt hq ha)]
  unfold rest
  rw [e]
  have hb : Nat.ble (q * b) a = true := Nat.ble_eq_true_of_le hq
  have e2 : subQ (.ofNat a) (.ofNat (q * b)) = .ofNat (a - q * b) := by simp only [subQ, hb, cond_true]; rfl
  rw [e2, wu64, m1 (by omega)]
theorem lo_nat {x : Nat} (h : x < 4294967296) : lo (.ofNat x) = .ofNat x := by
  unfold lo
  rw [wu32, wu64, m2 h, m1 (by omega)]
theorem lo_reg {A : Nat} (h : A < 18446744073709551616) : lo (regQ A) = .ofNat (A % 4294967296) := by
  rw [reg_eq h]
  unfold lo
  rw [wu32, wu64, m1 (by omega)]
theorem low_nat (A : Nat) : low A = .ofNat (A % 4294967296) := by
  unfold low
  rw [and64]
  have : A &&& 4294967295 = A % 4294967296 := land_low A 32
  rw [this, m1 (by omega)]
theorem div_rest (a b : Nat) : a - a / b * b = a % b := by
  have := Nat.div_add_mod a b
  rw [Nat.mul_comm] at this
  omega
theorem and_true' (b : Bool) : (b && true) = b := by cases b <;> rfl
theorem valW_true {A B : Nat} (hA : A < 18446744073709551616) (hB : B < 18446744073709551616) : valW A B = true := by
  unfold valW
  rw [reg_eq hA, reg_eq hB, quo_nat hA, rest_nat hA (Nat.div_mul_le_self A B), div_rest, and_true']
  exact beq_self_eq_true _
theorem valW0_true {A B : Nat} (hA : A < 18446744073709551616) (hB : B < 18446744073709551616) : valW0 A B = true := by
  unfold valW0
  rw [reg_eq hA, reg_eq hB]
  have : rest (.ofNat A) (.ofNat B) 0 = .ofNat (A - 0 * B) := rest_nat (q := 0) hA (by omega)
  rw [this, and_true']
  have e : A - 0 * B = A := by rw [Nat.zero_mul, Nat.sub_zero]
  rw [e]
  exact beq_self_eq_true _
theorem valN_true {A B : Nat} (hA : A < 18446744073709551616) (hB : B < 18446744073709551616) : valN A B = true := by
  unfold valN
  have ha : A % 4294967296 < 4294967296 := Nat.mod_lt _ (by decide)
  have hb : B % 4294967296 < 4294967296 := Nat.mod_lt _ (by decide)
  rw [lo_reg hA, lo_reg hB, low_nat, low_nat]
  generalize A % 4294967296 = a at ha
  generalize B % 4294967296 = b at hb
  have ha' : a < 18446744073709551616 := by omega
  have hq : a / b < 4294967296 := Nat.lt_of_le_of_lt (Nat.div_le_self a b) ha
  have hr : a % b < 4294967296 := Nat.lt_of_le_of_lt (Nat.mod_le a b) ha
  rw [quo_nat ha', lo_nat hq, lo_nat hq, rest_nat ha' (Nat.div_mul_le_self a b), div_rest, lo_nat hr, lo_nat hr, xor64]
  have hx : a / b ^^^ a % b < 4294967296 := Nat.xor_lt_two_pow (n := 32) hq hr
  rw [m1 (by omega), lo_nat hx]
  have : xorQ .u64 (.ofNat (a / b)) (remQ (.ofNat a) (.ofNat b)) = .ofNat (a / b ^^^ a % b) := by
    show xorQ .u64 (.ofNat (a / b)) (.ofNat (a % b)) = _
    rw [xor64, m1 (by omega)]
  rw [this, and_true']
  exact beq_self_eq_true _
theorem valN0_true {A B : Nat} (hA : A < 18446744073709551616) (hB : B < 18446744073709551616) : valN0 A B = true := by
  unfold valN0
  have ha : A % 4294967296 < 4294967296 := Nat.mod_lt _ (by decide)
  have hb : B % 4294967296 < 4294967296 := Nat.mod_lt _ (by decide)
  rw [lo_reg hA, lo_reg hB, low_nat]
  generalize A % 4294967296 = a at ha
  generalize B % 4294967296 = b at hb
  have : rest (.ofNat a) (.ofNat b) 0 = .ofNat (a - 0 * b) := rest_nat (q := 0) (by omega) (by omega)
  have e : a - 0 * b = a := by rw [Nat.zero_mul, Nat.sub_zero]
  rw [this, e, lo_nat ha, lo_nat ha]
  have x0 : xorQ .u64 0 (.ofNat a) = .ofNat a := by
    show Int.ofNat ((0 ^^^ a) % 18446744073709551616) = _
    rw [Nat.zero_xor, m1 (by omega)]
  rw [x0, lo_nat ha, and_true']
  exact beq_self_eq_true _
theorem nz_true {x : Nat} (h : x ≠ 0) : nz (.ofNat x) = true := by
  cases x with
  | zero => exact absurd rfl h
  | succ x => rfl
theorem yz_true : yz (.ofNat 0) = true := rfl
/-! ### The run must be right about all of it -/
theorem conds {A B : Nat} {cl : List Int} {m f : List Bool} (hc : ∀ p ∈ parts A B, ∀ c ∈ cl, (Int.ofNat p.h) ≠ c) (hm : ∀ t ∈ m, t = true) (hf : ∀ t ∈ f, t = true) : ∀ t ∈ (encC cl [] (parts A B) ++ (m ++ (runC cl [] (parts A B) ++ f))).reverse, t = true := by
  intro t ht
  simp only [List.mem_reverse, List.mem_append] at ht
  rcases ht with ht | ht | ht | ht
  · exact encC_all _ _ (parts_good A B) hc (parts_apart A B) t ht
  · exact hm t ht
  · exact runC_all _ _ (parts_good A B) hc (parts_apart A B) t ht
  · exact hf t ht
theorem clW_not (A B : Nat) : ∀ p ∈ parts A B, ∀ c ∈ clW, (Int.ofNat p.h) ≠ c := parts_not fun c hc => by
  simp only [clW, List.mem_cons, List.not_mem_nil, or_false] at hc
  rcases hc with rfl | rfl | rfl | rfl <;> exact ⟨_, rfl, by decide⟩
theorem clN_not (A B : Nat) : ∀ p ∈ parts A B, ∀ c ∈ clN, (Int.ofNat p.h) ≠ c := parts_not fun c hc => by
  simp only [clN, List.mem_cons, List.not_mem_nil, or_false] at hc
  rcases hc with rfl | rfl | rfl | rfl <;> exact ⟨_, rfl, by decide⟩
theorem runs (A B : Nat) (w : Bool) (hA : A < 18446744073709551616) (hB : B < 18446744073709551616) : ∃ s, (DD Tryz.prog 300 okl (TSs (T4 A B w)) 30 6 : Option (Ev.Spec AV)) = some s ∧ s [] 0 (args A B w) (fun v _ _ => some v) = some (.bool true) := by
  cases w with
  | true =>
    by_cases h0 : B = 0
    · have := run_w0 A B
      rw [valW0_true hA hB] at this
      refine tabO_run (by decide) this (conds (m := [_]) (clW_not A B) (fun t ht => ?_) fun t ht => ?_)
      · simp only [List.mem_cons, List.not_mem_nil, or_false] at ht
        subst ht; subst h0; exact yz_true
      · simp only [List.mem_cons, List.not_mem_nil, or_false] at ht
        subst ht; subst h0; rw [reg_eq (by decide)]; exact yz_true
    · have := run_w A B
      rw [valW_true hA hB] at this
      refine tabO_run (by decide) this (conds (m := [_, _, _]) (clW_not A B) (fun t ht => ?_) fun t ht => ?_)
      · simp only [List.mem_cons, List.not_mem_nil, or_false] at ht
        rcases ht with rfl | rfl | rfl <;> exact nz_true h0
      · simp only [List.mem_cons, List.not_mem_nil, or_false] at ht
        rcases ht with rfl | rfl <;> (rw [reg_eq hB]; exact nz_true h0)
  | false =>
    by_cases h0 : B % 4294967296 = 0
    · have := run_n0 A B
      rw [valN0_true hA hB] at this
      refine tabO_run (by decide) this (conds (m := [_]) (clN_not A B) (fun t ht => ?_) fun t ht => ?_)
      · simp only [List.mem_cons, List.not_mem_nil, or_false] at ht
        subst ht; rw [low_nat, h0]; exact yz_true
      · simp only [List.mem_cons, List.not_mem_nil, or_false] at ht
        subst ht; rw [lo_reg hB, h0]; exact yz_true
    · have := run_n A B
      rw [valN_true hA hB] at this
      refine tabO_run (by decide) this (conds (m := [_, _, _]) (clN_not A B) (fun t ht => ?_) fun t ht => ?_)
      · simp only [List.mem_cons, List.not_mem_nil, or_false] at ht
        rcases ht with rfl | rfl | rfl <;> (rw [low_nat]; exact nz_true h0)
      · simp only [List.mem_cons, List.not_mem_nil, or_false] at ht
        rcases ht with rfl | rfl <;> (rw [lo_reg hB]; exact nz_true h0)
theorem closed_reads (w : Bool) : ∀ p ∈ hdiv w, flat 3 p.2 = true ∧ Reads p.1 p.2 := by
  intro p hp
  cases w <;> (simp only [hdiv, cond_true, cond_false, List.mem_cons, List.not_mem_nil, or_false] at hp; rcases hp with rfl | rfl | rfl | rfl <;> exact ⟨rfl, tabS_run (W := 7) (by decide) (by kernel_rfl)⟩)
theorem T4_ok (A B : Nat) (w : Bool) {R : Type} : Sound Tryz.prog (TSs (T4 A B w) : Specs R) := by
  refine tab_cons (.inl (reads_sound (by simp [hdiv]) fun p hp => ?_)) T3_ok
  rcases List.mem_append.1 hp with hp | hp
  · exact closed_reads w p hp
  · exact hmov_reads A B p hp
theorem calls (a : Int) (ha : (Lit.int .u64 a).wf = true) (b : Int) (hb : (Lit.int .u64 b).wf = true) (w : Bool) (W : World) :
    Calls Tryz.prog 6 #[.int .u64 a, .int .u64 b, .bool w] W fun e w' => e = .returned (.bool true) ∧ Below W.heap.size W w' := by
  obtain ⟨a1, a2⟩ := Go.bounds_u64 ha
  obtain ⟨b1, b2⟩ := Go.bounds_u64 hb
  obtain ⟨A, rfl⟩ := Int.eq_ofNat_of_zero_le a1
  obtain ⟨B, rfl⟩ := Int.eq_ofNat_of_zero_le b1
  have hc : CR (fun _ => none) (args A B w) [.int .u64 A, .int .u64 B, .bool w] := ⟨rfl, fun i a b => match i, a, b with
    | 0, _, _ => .int .u64 A
    | 1, _, _ => .int .u64 B
    | 2, _, _ => .bool w
    | i + 3, a, _ => absurd a (by simp [args])⟩
  exact tab_calls (xs := #[.int .u64 A, .int .u64 B, .bool w]) okl_ok.symm (T4_ok A B w) rfl (runs A B w (by omega) (by omega)) hc W
end
end Go.Proofs.YtbepakbjinhjcaaGreatDoor.W23
