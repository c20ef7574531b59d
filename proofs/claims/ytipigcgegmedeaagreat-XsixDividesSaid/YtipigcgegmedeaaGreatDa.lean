/- math/bits.Len64: one more than the logarithm. -/
import Derived.Test.YtipigcgegmedeaaGreatXa
import Derived.Test.YtipigcgegmedeaaGreatHd
namespace Go.Proofs.YtipigcgegmedeaaGreat.W21
open Go Go.RowKit Go.Proofs.YtipigcgegmedeaaGreat.Ev
set_option linter.unusedVariables false
noncomputable section
def lenT : List UInt8 := [0] ++ List.replicate 1 1 ++ List.replicate 2 2 ++ List.replicate 4 3 ++ List.replicate 8 4 ++ List.replicate 16 5 ++ List.replicate 32 6 ++ List.replicate 64 7 ++ List.replicate 128 8
def lenAt (v : Int) : Int := .ofNat (lenT.getD (natQ (wrapQ .u8 v)) 0).toNat
def lenX (a : Nat) : W3 (AV × Blks) := locQ Tryz.prog 300 1 okl [] 30 104 [.int .u64 (.ofNat a)] [] []
def geB (v : Int) (k : Nat) : Bool := bif ltQ v (.ofNat k) then false else true
def noB (b : Bool) : Bool := bif b then false else true
def shN (v : Int) (k : Nat) : Int := shrQ .u64 v (.ofNat k)
def lenV (n : Nat) (v : Int) : AV := .int .i64 (wrapQ .i64 (addQ (.ofNat n) (wrapQ .i64 (lenAt v))))
set_option maxRecDepth 1000000
theorem len000 (a : Nat) : flw3 (lenX a) [(0, false), (0, false), (0, false), (0, true)] [] = some ((lenV 0 (.ofNat a), []), [inR (wrapQ .u8 (.ofNat a)) 256, noB (geB (.ofNat a) 256), noB (geB (.ofNat a) 65536), noB (geB (.ofNat a) 4294967296)]) := by kernel_rfl
theorem len001 (a : Nat) : flw3 (lenX a) [(0, false), (0, false), (0, true), (1, true)] [] = some ((lenV 8 (shN (.ofNat a) 8), []), [inR (wrapQ .u8 (shN (.ofNat a) 8)) 256, geB (.ofNat a) 256, noB (geB (.ofNat a) 65536), noB (geB (.ofNat a) 4294967296)]) := by kernel_rfl
theorem len010 (a : Nat) : flw3 (lenX a) [(0, false), (0, true), (1, false), (0, true)] [] = some ((lenV 16 (shN (.ofNat a) 16), []), [inR (wrapQ .u8 (shN (.ofNat a) 16)) 256, noB (geB (shN (.ofNat a) 16) 256), geB (.ofNat a) 65536, noB (geB (.ofNat a) 4294967296)]) := by kernel_rfl
theorem len011 (a : Nat) : flw3 (lenX a) [(0, false), (0, true), (1, true), (1, true)] [] = some ((lenV 24 (shN (shN (.ofNat a) 16) 8), []), [inR (wrapQ .u8 (shN (shN (.ofNat a) 16) 8)) 256, geB (shN (.ofNat a) 16) 256, geB (.ofNat a) 65536, noB (geB (.ofNat a) 4294967296)]) := by kernel_rfl
theorem len100 (a : Nat) : flw3 (lenX a) [(0, true), (1, false), (0, false), (0, true)] [] = some ((lenV 32 (shN (.ofNat a) 32), []), [inR (wrapQ .u8 (shN (.ofNat a) 32)) 256, noB (geB (shN (.ofNat a) 32) 256), noB (geB (shN (.ofNat a) 32) 65536), geB (.ofNat a) 4294967296]) := by kernel_rfl
theorem len101 (a : Nat) : flw3 (lenX a) [(0, true), (1, false), (0, true), (1, true)] [] = some ((lenV 40 (shN (shN (.ofNat a) 32) 8), []), [inR (wrapQ .u8 (shN (shN (.ofNat a) 32) 8)) 256, geB (shN (.ofNat a) 32) 256, noB (geB (shN (.ofNat a) 32) 65536), geB (.ofNat a) 4294967296]) := by kernel_rfl
theorem len110 (a : Nat) : flw3 (lenX a) [(0, true), (1, true), (1, false), (0, true)] [] = some ((lenV 48 (shN (shN (.ofNat a) 32) 16), []), [inR (wrapQ .u8 (shN (shN (.ofNat a) 32) 16)) 256, noB (geB (shN (shN (.ofNat a) 32) 16) 256), geB (shN (.ofNat a) 32) 65536, geB (.ofNat a) 4294967296]) := by kernel_rfl
theorem len111 (a : Nat) : flw3 (lenX a) [(0, true), (1, true), (1, true), (1, true)] [] = some ((lenV 56 (shN (shN (shN (.ofNat a) 32) 16) 8), []), [inR (wrapQ .u8 (shN (shN (shN (.ofNat a) 32) 16) 8)) 256, geB (shN (shN (.ofNat a) 32) 16) 256, geB (shN (.ofNat a) 32) 65536, geB (.ofNat a) 4294967296]) := by kernel_rfl
/-- The table: 2^(t-1) <= i < 2^t. -/
def lenOk (i : Nat) : Bool := Nat.beq i 0 || (Nat.ble (2 ^ ((lenT.getD i 0).toNat - 1)) i && Nat.blt i (2 ^ (lenT.getD i 0).toNat) && Nat.ble 1 (lenT.getD i 0).toNat && Nat.ble (lenT.getD i 0).toNat 8)
theorem lenT_ok : true = allN 256 lenOk := by kernel_rfl
theorem lenT_at {i : Nat} (h0 : 0 < i) (h : i < 256) : 2 ^ ((lenT.getD i 0).toNat - 1) ≤ i ∧ i < 2 ^ (lenT.getD i 0).toNat ∧ 1 ≤ (lenT.getD i 0).toNat ∧ (lenT.getD i 0).toNat ≤ 8 := by
  have := allN_eq lenT_ok.symm i h
  unfold lenOk at this
  simp only [Bool.or_eq_true, Bool.and_eq_true, Nat.ble_eq, Nat.blt_eq] at this
  rcases this with e | ⟨⟨⟨a, b⟩, c⟩, d⟩
  · have := Nat.eq_of_beq_eq_true e; omega
  · exact ⟨a, b, c, d⟩
theorem log_of {x n t v : Nat} (hv : v = x / 2 ^ n) (ht : 1 ≤ t) (h1 : 2 ^ (t - 1) ≤ v) (h2 : v < 2 ^ t) : x.log2 + 1 = n + t := by
  have hp : 0 < 2 ^ n := Nat.pow_pos (by decide)
  subst hv
  have a1 : 2 ^ (t - 1) * 2 ^ n ≤ x := (Nat.le_div_iff_mul_le hp).1 h1
  have a2 : x < 2 ^ t * 2 ^ n := (Nat.div_lt_iff_lt_mul hp).1 h2
  rw [← Nat.pow_add] at a1 a2
  have hx : x ≠ 0 := by
    have : 0 < 2 ^ (t - 1 + n) := Nat.pow_pos (by decide)
    omega
  have b1 : t - 1 + n ≤ x.log2 := (Nat.le_log2 hx).2 a1
  have b2 : x.log2 < t + n := (Nat.log2_lt hx).2 a2
  omega
theorem ltQn (a b : Nat) : ltQ (.ofNat a) (.ofNat b) = decide (a < b) := by
  rw [ltQ_eq, Bool.eq_iff_iff, decide_eq_true_iff, decide_eq_true_iff]
  exact Int.ofNat_lt
theorem geB_n {a k : Nat} (h : k ≤ a) : geB (.ofNat a) k = true := by
  unfold geB; rw [ltQn, decide_eq_false (by omega)]; rfl
theorem geB_no {a k : Nat} (h : a < k) : noB (geB (.ofNat a) k) = true := by
  unfold noB geB; rw [ltQn, decide_eq_true h]; rfl
theorem shN_n (x : Nat) {k : Nat} (q : Nat) (hq : q = 2 ^ k) (h : k ≤ 64) : shN (.ofNat x) k = .ofNat (x / q) := by
  subst hq
  have : lowQ .u64 k = k := by rw [lowQ_eq]; exact Nat.min_eq_left h
  exact congrArg (fun z => Int.ofNat (Nat.div x (Nat.pow 2 z))) this
theorem len_end {a n v : Nat} (h0 : 0 < v) (h : v < 256) (hv : v = a / 2 ^ n) (hn : n ≤ 56) : lenV n (.ofNat v) = .int .i64 (.ofNat (a.log2 + 1)) ∧ inR (wrapQ .u8 (.ofNat v)) 256 = true := by
  have hw : wrapQ .u8 (.ofNat v) = .ofNat v := congrArg Int.ofNat (Nat.mod_eq_of_lt h)
  obtain ⟨a1, a2, a3, a4⟩ := lenT_at h0 h
  refine ⟨?_, ?_⟩
  · unfold lenV lenAt
    rw [hw]
    show AV.int .i64 (wrapQ .i64 (addQ (.ofNat n) (wrapQ .i64 (.ofNat (lenT.getD v 0).toNat)))) = _
    rw [log_of hv a3 a1 a2]
    generalize (lenT.getD v 0).toNat = t at a4
    have w : ∀ z : Nat, z < 128 → wrapQ .i64 (.ofNat z) = .ofNat z := fun z hz => by
      rw [wrapQ_eq]
      simp only [IntKind.wrap, show IntKind.i64.signed = true from rfl, show (2 : Int) ^ IntKind.i64.bits = 18446744073709551616 from by decide, show (2 : Int) ^ (IntKind.i64.bits - 1) = 9223372036854775808 from by decide, Bool.true_and, decide_eq_true_eq, ge_iff_le]
      have : (Int.ofNat z) % 18446744073709551616 = z := Int.emod_eq_of_lt (by simp) (by simp only [Int.ofNat_eq_natCast]; omega)
      rw [this, if_neg (by omega)]; rfl
    rw [w t (by omega)]
    exact congrArg (AV.int .i64) (w (n + t) (by omega))
  · rw [hw, inR_eq, Bool.and_eq_true, decide_eq_true_iff, decide_eq_true_iff]
    exact ⟨Int.natCast_nonneg _, by simp only [Int.ofNat_eq_natCast]; omega⟩
theorem len_loc {a : Nat} (h0 : 0 < a) (ha : a < 18446744073709551616) : LocOk Tryz.prog 0 104 [.int .u64 (.ofNat a)] [] (.int .i64 (.ofNat (a.log2 + 1))) [] := by
  have fin : ∀ {os : List (Nat × Bool)} {n v : Nat} {c1 c2 c3 : Bool}, flw3 (lenX a) os [] = some ((lenV n (.ofNat v), []), [inR (wrapQ .u8 (.ofNat v)) 256, c3, c2, c1]) → 0 < v → v < 256 → v = a / 2 ^ n → n ≤ 56 → c1 = true → c2 = true → c3 = true → LocOk Tryz.prog 0 104 [.int .u64 (.ofNat a)] [] (.int .i64 (.ofNat (a.log2 + 1))) [] :=
    fun {os n v c1 c2 c3} h g0 g1 g2 g3 e1 e2 e3 => by
      obtain ⟨z1, z2⟩ := len_end g0 g1 g2 g3
      rw [z1] at h
      exact loc_of_run okl_ok.symm tb_nil rfl h (AllT.mem ⟨z2, e3, e2, e1, trivial⟩) (cov_of rfl rfl (.int _ _) rfl) rfl
  have s0 : shN (.ofNat a) 32 = .ofNat (a / 4294967296) := shN_n a _ rfl (by decide)
  have s1 : ∀ x : Nat, shN (.ofNat x) 16 = .ofNat (x / 65536) := fun x => shN_n x _ rfl (by decide)
  have s2 : ∀ x : Nat, shN (.ofNat x) 8 = .ofNat (x / 256) := fun x => shN_n x _ rfl (by decide)
  by_cases c1 : a < 4294967296
  · by_cases c2 : a < 65536
    · by_cases c3 : a < 256
      · exact fin (len000 a) h0 c3 (by simp) (by decide) (geB_no c1) (geB_no c2) (geB_no c3)
      · have r := len001 a; rw [s2] at r
        exact fin r (by omega) (by omega) rfl (by decide) (geB_no c1) (geB_no c2) (geB_n (by omega))
    · by_cases c3 : a / 65536 < 256
      · have r := len010 a; rw [s1] at r
        exact fin r (by omega) c3 rfl (by decide) (geB_no c1) (geB_n (by omega)) (geB_no c3)
      · have r := len011 a; rw [s1, s2] at r
        exact fin r (by omega) (by omega) (by rw [Nat.div_div_eq_div_mul]) (by decide) (geB_no c1) (geB_n (by omega)) (geB_n (by omega))
  · by_cases c2 : a / 4294967296 < 65536
    · by_cases c3 : a / 4294967296 < 256
      · have r := len100 a; rw [s0] at r
        exact fin r (by omega) c3 rfl (by decide) (geB_n (by omega)) (geB_no c2) (geB_no c3)
      · have r := len101 a; rw [s0, s2] at r
        exact fin r (by omega) (by omega) (by rw [Nat.div_div_eq_div_mul]) (by decide) (geB_n (by omega)) (geB_no c2) (geB_n (by omega))
    · by_cases c3 : a / 4294967296 / 65536 < 256
      · have r := len110 a; rw [s0, s1] at r
        exact fin r (by omega) c3 (by rw [Nat.div_div_eq_div_mul]) (by decide) (geB_n (by omega)) (geB_n (by omega)) (geB_no c3)
      · have r := len111 a; rw [s0, s1, s2] at r
        exact fin r (by omega) (by omega) (by rw [Nat.div_div_eq_div_mul, Nat.div_div_eq_div_mul]) (by decide) (geB_n (by omega)) (geB_n (by omega)) (geB_n (by omega))
/-- Of a number that is not 0. -/
def lenG : Gt → List AV → W3 Frm := fun _ args => match args with
  | [.int .u64 n] => .br (ltQ 0 n && ltQ n 18446744073709551616) (.val ⟨[], [.int .u64 (.ofNat (natQ n))], [], .int .i64 (.ofNat ((natQ n).log2 + 1)), [], [], []⟩) .nil
  | _ => .nil
theorem len_sound {R : Type} : SoundSpec Tryz.prog 104 (enS (.frm lenG) : Ev.Spec R) := by
  refine frm_sound ⟨Tryz.f104, Tryz.func104, by kernel_rfl, by kernel_rfl⟩ fun g args q h => ?_
  unfold lenG at h
  split at h
  · rename_i n
    have h : (bif ltQ 0 n && ltQ n 18446744073709551616 then some _ else none) = some q := h
    cases hb : ltQ 0 n && ltQ n 18446744073709551616 with
    | false => rw [hb] at h; cases h
    | true =>
      rw [hb, cond_true] at h
      cases h
      rw [Bool.and_eq_true, ltQ_iff, ltQ_iff] at hb
      obtain ⟨x, rfl⟩ := Int.eq_ofNat_of_zero_le (Int.le_of_lt hb.1)
      exact frm_fresh (d := 1) rfl (len_loc (a := x) (by omega) (by omega))
  · cases h
end
end Go.Proofs.YtipigcgegmedeaaGreat.W21
