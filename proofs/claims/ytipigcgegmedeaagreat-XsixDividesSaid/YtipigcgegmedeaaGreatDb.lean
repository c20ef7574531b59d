/- math/bits.Div64: its two loops. -/
import Derived.Test.YtipigcgegmedeaaGreatDa
namespace Go.Proofs.YtipigcgegmedeaaGreat.W21
open Go Go.RowKit Go.Proofs.YtipigcgegmedeaaGreat.Ev
set_option linter.unusedVariables false
noncomputable section
/-! ### A digit of the quotient, and its corrections -/
structure Dig (y1 y0 un u q r : Nat) : Prop where
  h1 : y1 < 4294967296
  h0 : y0 < 4294967296
  hu : u < 4294967296
  hun : un < y1 * 4294967296 + y0
  sum : q * y1 + r = un
  hq : q ≤ 4294967297
  ge : (un * 4294967296 + u) / (y1 * 4294967296 + y0) ≤ q
def dig (y1 y0 un u : Nat) : Nat := (un * 4294967296 + u) / (y1 * 4294967296 + y0)
theorem dig_prod (y1 y0 q : Nat) : q * (y1 * 4294967296 + y0) = q * y1 * 4294967296 + q * y0 := by rw [Nat.mul_add, Nat.mul_assoc]
theorem dig_lt {y1 y0 un u : Nat} (hu : u < 4294967296) (hun : un < y1 * 4294967296 + y0) : dig y1 y0 un u < 4294967296 := by
  refine Nat.div_lt_of_lt_mul ?_
  have : un + 1 ≤ y1 * 4294967296 + y0 := hun
  have := Nat.mul_le_mul_right 4294967296 this
  omega
theorem Dig.stop {y1 y0 un u q r : Nat} (d : Dig y1 y0 un u q r) (c1 : q < 4294967296) (c2 : q * y0 ≤ 4294967296 * r + u) : q = dig y1 y0 un u := by
  refine Nat.le_antisymm ?_ d.ge
  refine (Nat.le_div_iff_mul_le (by have := d.hun; omega)).2 ?_
  rw [dig_prod]
  have := d.sum
  omega
theorem Dig.less {y1 y0 un u q r : Nat} (d : Dig y1 y0 un u q r) (c : 4294967296 ≤ q ∨ 4294967296 * r + u < q * y0) : dig y1 y0 un u < q := by
  rcases c with c | c
  · exact Nat.lt_of_lt_of_le (dig_lt d.hu d.hun) c
  · refine Nat.div_lt_of_lt_mul ?_
    rw [Nat.mul_comm (y1 * 4294967296 + y0) q, dig_prod]
    have := d.sum
    omega
theorem Dig.next {y1 y0 un u q r : Nat} (d : Dig y1 y0 un u q r) (c : 4294967296 ≤ q ∨ 4294967296 * r + u < q * y0) : 1 ≤ q ∧ Dig y1 y0 un u (q - 1) (r + y1) := by
  have l := d.less c
  have hq : 1 ≤ q := by omega
  refine ⟨hq, d.h1, d.h0, d.hu, d.hun, ?_, by have := d.hq; omega, by have : dig y1 y0 un u ≤ q - 1 := by omega
                                                                      exact this⟩
  obtain ⟨p, rfl⟩ := Nat.exists_eq_add_of_le hq
  have := d.sum
  rw [Nat.add_mul, Nat.one_mul] at this
  rw [Nat.add_sub_cancel_left]
  omega
theorem Dig.big {y1 y0 un u q r : Nat} (d : Dig y1 y0 un u q r) (c : 4294967296 ≤ r) : q = dig y1 y0 un u := by
  have hs := d.sum
  have hun := d.hun
  have h0 := d.h0
  have c1 : q < 4294967296 := by
    refine Nat.lt_of_not_le fun h => ?_
    have := Nat.mul_le_mul_right y1 h
    rw [Nat.mul_comm y1] at hun
    omega
  refine d.stop c1 ?_
  have h2 : q * y0 ≤ 4294967295 * 4294967295 := Nat.mul_le_mul (by omega) (by omega)
  omega
theorem Dig.mul {y1 y0 un u q r : Nat} (d : Dig y1 y0 un u q r) : q * y0 < 18446744073709551616 := by
  have h2 : q * y0 ≤ 4294967297 * 4294967295 := Nat.mul_le_mul d.hq (by have := d.h0; omega)
  omega
theorem w64 {m : Nat} (h : m < 18446744073709551616) : wrapQ .u64 (.ofNat m) = .ofNat m := congrArg Int.ofNat (Nat.mod_eq_of_lt h)
theorem subN {a c : Nat} (h : c ≤ a) : subQ (.ofNat a) (.ofNat c) = .ofNat (a - c) := by
  rw [subQ_eq]
  simp only [Int.ofNat_eq_natCast]
  omega
theorem noB_ge {a k : Nat} (h : a < k) : noB (geB (.ofNat a) k) = true := geB_no h
/-! ### The loops -/
theorem nt : (Tryz.f80).ntmps = 135 := by kernel_rfl
def lp1 : Code := ((loopsIn (bodyOf Tryz.f80))[0]?).getD .skip
def lp2 : Code := ((loopsIn (bodyOf Tryz.f80))[1]?).getD .skip
theorem lps : loopsIn (bodyOf Tryz.f80) = [lp1, lp2] := by kernel_rfl
theorem lp1_fr : firstRegion lp1 = 17 := by kernel_rfl
theorem lp2_fr : firstRegion lp2 = 24 := by kernel_rfl
theorem lp1_in : loopsIn lp1 = [] := by kernel_rfl
theorem lp2_in : loopsIn lp2 = [] := by kernel_rfl
abbrev iN (n : Nat) : AV := .int .u64 (.ofNat n)
def subC (q : Nat) : AV := .int .u64 (wrapQ .u64 (subQ (.ofNat q) 1))
def addC (r y : Nat) : AV := .int .u64 (wrapQ .u64 (addQ (.ofNat r) (.ofNat y)))
def lhs (r u : Nat) : Int := wrapQ .u64 (addQ (wrapQ .u64 (mulQ 4294967296 (.ofNat r))) (.ofNat u))
def rhs (q y0 : Nat) : Int := wrapQ .u64 (mulQ (.ofNat q) (.ofNat y0))
set_option maxRecDepth 1000000
theorem lhs_n {r u : Nat} (hr : r < 4294967296) (hu : u < 4294967296) : lhs r u = .ofNat (4294967296 * r + u) := by
  unfold lhs
  show wrapQ .u64 (addQ (wrapQ .u64 (.ofNat (4294967296 * r))) (.ofNat u)) = _
  rw [w64 (by omega)]
  show wrapQ .u64 (.ofNat (4294967296 * r + u)) = _
  exact w64 (by omega)
theorem rhs_n {q y0 : Nat} (h : q * y0 < 18446744073709551616) : rhs q y0 = .ofNat (q * y0) := w64 h
theorem sub_n {q : Nat} (h : 1 ≤ q) (h2 : q ≤ 4294967297) : subC q = iN (q - 1) := by
  unfold subC
  have : subQ (.ofNat q) 1 = .ofNat (q - 1) := subN h
  rw [this, w64 (by omega)]
theorem add_n {r y : Nat} (h : r < 4294967296) (h2 : y < 4294967296) : addC r y = iN (r + y) := by
  unfold addC
  exact congrArg (AV.int .u64) (w64 (show r + y < 18446744073709551616 by omega))
def ix1 : List Nat := [2, 8, 9, 10, 11, 12, 13, 14, 15, 16]
def ixF1 : List Nat := [2, 8, 9, 10, 11, 12, 13, 14, 15]
def va1 (Y S y1 y0 un z2 u z4 q r : Nat) : List AV := [iN Y, iN S, iN y1, iN y0, iN un, iN z2, iN u, iN z4, iN q, iN r]
def vaF1 (Y S y1 y0 un z2 u z4 q : Nat) : List AV := [iN Y, iN S, iN y1, iN y0, iN un, iN z2, iN u, iN z4, iN q]
def cX1 (ix : List Nat) (Y S y1 y0 un z2 u z4 q r : Nat) : W3 (Ex × List AV × Blks) := codeQ Tryz.prog 300 1 okl [] 30 4 (fun _ => none) lp1 (mkTs 135 (ix1.zip (va1 Y S y1 y0 un z2 u z4 q r))) [] ix []
theorem c1a (Y S y1 y0 un z2 u z4 q r : Nat) : flw3 (cX1 ixF1 Y S y1 y0 un z2 u z4 q r) [(0, false), (7, false)] [] = some ((.exit 0, vaF1 Y S y1 y0 un z2 u z4 q, []), [bif ltQ (lhs r u) (rhs q y0) then false else true, noB (geB (.ofNat q) 4294967296)]) := by kernel_rfl
theorem c1b (Y S y1 y0 un z2 u z4 q r : Nat) : flw3 (cX1 ix1 Y S y1 y0 un z2 u z4 q r) [(0, true), (8, false)] [] = some ((.normal, [iN Y, iN S, iN y1, iN y0, iN un, iN z2, iN u, iN z4, subC q, addC r y1], []), [noB (geB (wrapQ .u64 (addQ (.ofNat r) (.ofNat y1))) 4294967296), geB (.ofNat q) 4294967296]) := by kernel_rfl
theorem c1c (Y S y1 y0 un z2 u z4 q r : Nat) : flw3 (cX1 ix1 Y S y1 y0 un z2 u z4 q r) [(0, false), (7, true), (0, false)] [] = some ((.normal, [iN Y, iN S, iN y1, iN y0, iN un, iN z2, iN u, iN z4, subC q, addC r y1], []), [noB (geB (wrapQ .u64 (addQ (.ofNat r) (.ofNat y1))) 4294967296), ltQ (lhs r u) (rhs q y0), noB (geB (.ofNat q) 4294967296)]) := by kernel_rfl
theorem c1d (Y S y1 y0 un z2 u z4 q r : Nat) : flw3 (cX1 ixF1 Y S y1 y0 un z2 u z4 q r) [(0, true), (8, true)] [] = some ((.exit 0, [iN Y, iN S, iN y1, iN y0, iN un, iN z2, iN u, iN z4, subC q], []), [geB (wrapQ .u64 (addQ (.ofNat r) (.ofNat y1))) 4294967296, geB (.ofNat q) 4294967296]) := by kernel_rfl
theorem c1e (Y S y1 y0 un z2 u z4 q r : Nat) : flw3 (cX1 ixF1 Y S y1 y0 un z2 u z4 q r) [(0, false), (7, true), (0, true)] [] = some ((.exit 0, [iN Y, iN S, iN y1, iN y0, iN un, iN z2, iN u, iN z4, subC q], []), [geB (wrapQ .u64 (addQ (.ofNat r) (.ofNat y1))) 4294967296, ltQ (lhs r u) (rhs q y0), noB (geB (.ofNat q) 4294967296)]) := by kernel_rfl
theorem body1 {Y S y1 y0 un z2 u z4 q r : Nat} {os : List (Nat × Bool)} {e : Ex} {vs : List AV} {l : List Bool} {ix : List Nat} (hr : flw3 (cX1 ix Y S y1 y0 un z2 u z4 q r) os [] = some ((e, vs, []), l)) (hl : AllT l) (hv : vs.all (flat 1) = true) :
    CodeLoc Tryz.prog 0 lp1 (mkTs 135 (ix1.zip (va1 Y S y1 y0 un z2 u z4 q r))) [] e (mkTs 135 (ix.zip vs)) [] := by
  have := code_of_run (k := 0) (LD := fun _ => none) okl_ok.symm tb_nil (by rw [lp1_in]; intro x hx; simp at hx) refL_none hr (AllT.mem hl) (cov_flat hv) rfl
  rw [mkTs_len] at this
  exact this
theorem loop1 {Y S y1 y0 un z2 u z4 q r : Nat} (d : Dig y1 y0 un u q r) (hr : r < 4294967296) : CodeLoc Tryz.prog 0 (.loop lp1) (mkTs 135 (ix1.zip (va1 Y S y1 y0 un z2 u z4 q r))) [] (.exit 0) (mkTs 135 (ixF1.zip (vaF1 Y S y1 y0 un z2 u z4 (dig y1 y0 un u)))) [] := by
  refine loop_loc (γ := Nat × Nat) (fun g => mkTs 135 (ix1.zip (va1 Y S y1 y0 un z2 u z4 g.1 g.2))) (fun _ => []) (fun _ => .exit 0) (fun _ => mkTs 135 (ixF1.zip (vaF1 Y S y1 y0 un z2 u z4 (dig y1 y0 un u)))) (fun _ => []) (fun g => Dig y1 y0 un u g.1 g.2 ∧ g.2 < 4294967296) (fun g => g.1) ?_ (q, r) ⟨d, hr⟩
  intro g hg
  obtain ⟨q, r⟩ := g
  obtain ⟨d, hr⟩ := hg
  simp only at d hr
  have e1 := lhs_n (r := r) (u := u) hr d.hu
  have e2 := rhs_n d.mul
  have e3 : wrapQ .u64 (addQ (.ofNat r) (.ofNat y1)) = .ofNat (r + y1) := w64 (show r + y1 < 18446744073709551616 by have := d.h1; omega)
  have e4 := add_n hr d.h1
  by_cases c1 : 4294967296 ≤ q
  · obtain ⟨n1, n2⟩ := d.next (.inl c1)
    have e5 := sub_n n1 d.hq
    by_cases c2 : 4294967296 ≤ r + y1
    · refine .inr ⟨by simp, ?_⟩
      have h := c1d Y S y1 y0 un z2 u z4 q r
      rw [e5, e3, n2.big c2] at h
      exact body1 h ⟨geB_n c2, geB_n c1, trivial⟩ rfl
    · refine .inl ⟨(q - 1, r + y1), ⟨n2, by omega⟩, by simp only; omega, rfl, rfl, rfl, ?_⟩
      have h := c1b Y S y1 y0 un z2 u z4 q r
      rw [e5, e4, e3] at h
      exact body1 h ⟨geB_no (by omega), geB_n c1, trivial⟩ rfl
  · by_cases c3 : 4294967296 * r + u < q * y0
    · obtain ⟨n1, n2⟩ := d.next (.inr c3)
      have e5 := sub_n n1 d.hq
      have c3' : ltQ (lhs r u) (rhs q y0) = true := by rw [e1, e2, ltQn]; exact decide_eq_true c3
      by_cases c2 : 4294967296 ≤ r + y1
      · refine .inr ⟨by simp, ?_⟩
        have h := c1e Y S y1 y0 un z2 u z4 q r
        rw [e5, e3, n2.big c2] at h
        exact body1 h ⟨geB_n c2, c3', geB_no (by omega), trivial⟩ rfl
      · refine .inl ⟨(q - 1, r + y1), ⟨n2, by omega⟩, by simp only; omega, rfl, rfl, rfl, ?_⟩
        have h := c1c Y S y1 y0 un z2 u z4 q r
        rw [e5, e4, e3] at h
        exact body1 h ⟨geB_no (by omega), c3', geB_no (by omega), trivial⟩ rfl
    · refine .inr ⟨by simp, ?_⟩
      have h := c1a Y S y1 y0 un z2 u z4 q r
      have c3' : ltQ (lhs r u) (rhs q y0) = false := by rw [e1, e2, ltQn]; exact decide_eq_false c3
      have := d.stop (by omega) (by omega)
      have hb := body1 h ⟨by rw [c3']; rfl, geB_no (by omega), trivial⟩ rfl
      exact Eq.mp (congrArg (fun z => CodeLoc Tryz.prog 0 lp1 (mkTs 135 (ix1.zip (va1 Y S y1 y0 un z2 u z4 q r))) [] (.exit 0) (mkTs 135 (ixF1.zip (vaF1 Y S y1 y0 un z2 u z4 z))) []) this) hb
def ix2 : List Nat := [2, 8, 9, 10, 14, 15, 17, 18, 16]
def ixF2 : List Nat := [2, 8, 9, 10, 14, 15, 17, 18]
def va2 (Y S y1 y0 u z5 un q r : Nat) : List AV := [iN Y, iN S, iN y1, iN y0, iN u, iN z5, iN un, iN q, iN r]
def vaF2 (Y S y1 y0 u z5 un q : Nat) : List AV := [iN Y, iN S, iN y1, iN y0, iN u, iN z5, iN un, iN q]
def cX2 (ix : List Nat) (Y S y1 y0 u z5 un q r : Nat) : W3 (Ex × List AV × Blks) := codeQ Tryz.prog 300 1 okl [] 30 4 (fun _ => none) lp2 (mkTs 135 (ix2.zip (va2 Y S y1 y0 u z5 un q r))) [] ix []
theorem c2a (Y S y1 y0 u z5 un q r : Nat) : flw3 (cX2 ixF2 Y S y1 y0 u z5 un q r) [(0, false), (7, false)] [] = some ((.exit 2, vaF2 Y S y1 y0 u z5 un q, []), [bif ltQ (lhs r u) (rhs q y0) then false else true, noB (geB (.ofNat q) 4294967296)]) := by kernel_rfl
theorem c2b (Y S y1 y0 u z5 un q r : Nat) : flw3 (cX2 ix2 Y S y1 y0 u z5 un q r) [(0, true), (8, false)] [] = some ((.normal, [iN Y, iN S, iN y1, iN y0, iN u, iN z5, iN un, subC q, addC r y1], []), [noB (geB (wrapQ .u64 (addQ (.ofNat r) (.ofNat y1))) 4294967296), geB (.ofNat q) 4294967296]) := by kernel_rfl
theorem c2c (Y S y1 y0 u z5 un q r : Nat) : flw3 (cX2 ix2 Y S y1 y0 u z5 un q r) [(0, false), (7, true), (0, false)] [] = some ((.normal, [iN Y, iN S, iN y1, iN y0, iN u, iN z5, iN un, subC q, addC r y1], []), [noB (geB (wrapQ .u64 (addQ (.ofNat r) (.ofNat y1))) 4294967296), ltQ (lhs r u) (rhs q y0), noB (geB (.ofNat q) 4294967296)]) := by kernel_rfl
theorem c2d (Y S y1 y0 u z5 un q r : Nat) : flw3 (cX2 ixF2 Y S y1 y0 u z5 un q r) [(0, true), (8, true)] [] = some ((.exit 2, [iN Y, iN S, iN y1, iN y0, iN u, iN z5, iN un, subC q], []), [geB (wrapQ .u64 (addQ (.ofNat r) (.ofNat y1))) 4294967296, geB (.ofNat q) 4294967296]) := by kernel_rfl
theorem c2e (Y S y1 y0 u z5 un q r : Nat) : flw3 (cX2 ixF2 Y S y1 y0 u z5 un q r) [(0, false), (7, true), (0, true)] [] = some ((.exit 2, [iN Y, iN S, iN y1, iN y0, iN u, iN z5, iN un, subC q], []), [geB (wrapQ .u64 (addQ (.ofNat r) (.ofNat y1))) 4294967296, ltQ (lhs r u) (rhs q y0), noB (geB (.ofNat q) 4294967296)]) := by kernel_rfl
theorem body2 {Y S y1 y0 u z5 un q r : Nat} {os : List (Nat × Bool)} {e : Ex} {vs : List AV} {l : List Bool} {ix : List Nat} (hr : flw3 (cX2 ix Y S y1 y0 u z5 un q r) os [] = some ((e, vs, []), l)) (hl : AllT l) (hv : vs.all (flat 1) = true) :
    CodeLoc Tryz.prog 0 lp2 (mkTs 135 (ix2.zip (va2 Y S y1 y0 u z5 un q r))) [] e (mkTs 135 (ix.zip vs)) [] := by
  have := code_of_run (k := 0) (LD := fun _ => none) okl_ok.symm tb_nil (by rw [lp2_in]; intro x hx; simp at hx) refL_none hr (AllT.mem hl) (cov_flat hv) rfl
  rw [mkTs_len] at this
  exact this
theorem loop2 {Y S y1 y0 u z5 un q r : Nat} (d : Dig y1 y0 un u q r) (hr : r < 4294967296) : CodeLoc Tryz.prog 0 (.loop lp2) (mkTs 135 (ix2.zip (va2 Y S y1 y0 u z5 un q r))) [] (.exit 2) (mkTs 135 (ixF2.zip (vaF2 Y S y1 y0 u z5 un (dig y1 y0 un u)))) [] := by
  refine loop_loc (γ := Nat × Nat) (fun g => mkTs 135 (ix2.zip (va2 Y S y1 y0 u z5 un g.1 g.2))) (fun _ => []) (fun _ => .exit 2) (fun _ => mkTs 135 (ixF2.zip (vaF2 Y S y1 y0 u z5 un (dig y1 y0 un u)))) (fun _ => []) (fun g => Dig y1 y0 un u g.1 g.2 ∧ g.2 < 4294967296) (fun g => g.1) ?_ (q, r) ⟨d, hr⟩
  intro g hg
  obtain ⟨q, r⟩ := g
  obtain ⟨d, hr⟩ := hg
  simp only at d hr
  have e1 := lhs_n (r := r) (u := u) hr d.hu
  have e2 := rhs_n d.mul
  have e3 : wrapQ .u64 (addQ (.ofNat r) (.ofNat y1)) = .ofNat (r + y1) := w64 (show r + y1 < 18446744073709551616 by have := d.h1; omega)
  have e4 := add_n hr d.h1
  by_cases c1 : 4294967296 ≤ q
  · obtain ⟨n1, n2⟩ := d.next (.inl c1)
    have e5 := sub_n n1 d.hq
    by_cases c2 : 4294967296 ≤ r + y1
    · refine .inr ⟨by simp, ?_⟩
      have h := c2d Y S y1 y0 u z5 un q r
      rw [e5, e3, n2.big c2] at h
      exact body2 h ⟨geB_n c2, geB_n c1, trivial⟩ rfl
    · refine .inl ⟨(q - 1, r + y1), ⟨n2, by omega⟩, by simp only; omega, rfl, rfl, rfl, ?_⟩
      have h := c2b Y S y1 y0 u z5 un q r
      rw [e5, e4, e3] at h
      exact body2 h ⟨geB_no (by omega), geB_n c1, trivial⟩ rfl
  · by_cases c3 : 4294967296 * r + u < q * y0
    · obtain ⟨n1, n2⟩ := d.next (.inr c3)
      have e5 := sub_n n1 d.hq
      have c3' : ltQ (lhs r u) (rhs q y0) = true := by rw [e1, e2, ltQn]; exact decide_eq_true c3
      by_cases c2 : 4294967296 ≤ r + y1
      · refine .inr ⟨by simp, ?_⟩
        have h := c2e Y S y1 y0 u z5 un q r
        rw [e5, e3, n2.big c2] at h
        exact body2 h ⟨geB_n c2, c3', geB_no (by omega), trivial⟩ rfl
      · refine .inl ⟨(q - 1, r + y1), ⟨n2, by omega⟩, by simp only; omega, rfl, rfl, rfl, ?_⟩
        have h := c2c Y S y1 y0 u z5 un q r
        rw [e5, e4, e3] at h
        exact body2 h ⟨geB_no (by omega), c3', geB_no (by omega), trivial⟩ rfl
    · refine .inr ⟨by simp, ?_⟩
      have h := c2a Y S y1 y0 u z5 un q r
      have c3' : ltQ (lhs r u) (rhs q y0) = false := by rw [e1, e2, ltQn]; exact decide_eq_false c3
      have := d.stop (by omega) (by omega)
      have hb := body2 h ⟨by rw [c3']; rfl, geB_no (by omega), trivial⟩ rfl
      exact Eq.mp (congrArg (fun z => CodeLoc Tryz.prog 0 lp2 (mkTs 135 (ix2.zip (va2 Y S y1 y0 u z5 un q r))) [] (.exit 2) (mkTs 135 (ixF2.zip (vaF2 Y S y1 y0 u z5 un z))) []) this) hb
end
end Go.Proofs.YtipigcgegmedeaaGreat.W21
