/- XsixDivides: the runs' statements and the arithmetic. -/
import Derived.Test.YtipigcgegmedeaaGreatXk
namespace Go.Proofs.YtipigcgegmedeaaGreat.W21
open Go Go.RowKit Go.Proofs.YtipigcgegmedeaaGreat.Ev
set_option linter.unusedVariables false
noncomputable section
def rN (x : Nat) : Int := regV (.ofNat x)
def same3 (h l d : Nat) : List Bool := [sameV 73 186 (.ofNat d), sameV 72 184 (.ofNat l), sameV 72 186 (.ofNat h)]
def prodV (h l d : Nat) : Int := wrapQ .u64 (mulQ (.ofNat (qS (rN h) (rN l) (rN d))) (rN d))
def sumD (h l d : Nat) : Int := .ofNat (Nat.mod (Nat.add (prodV h l d).toNat (Int.ofNat (rS (rN h) (rN l) (rN d))).toNat) 18446744073709551616)
def carD (h l d : Nat) : Int := .ofNat (Nat.div (Nat.add (prodV h l d).toNat (Int.ofNat (rS (rN h) (rN l) (rN d))).toNat) 18446744073709551616)
def inD (h l d : Nat) : Bool := bif ltQ (rN h) 0 then false else bif ltQ (rN l) 0 then false else ltQ (rN l) 18446744073709551616 && ltQ (rN d) 18446744073709551616
def geD (a b : Int) : Bool := bif ltQ a b then false else true
def lawOk (h d : Nat) : List Bool := [noB (geD (.ofNat h) (.ofNat d)), noB (eqQ (.ofNat d) 0)]
def divOk (h l d : Nat) : List Bool := [inD h l d, ltQ (rN h) (rN d), noB (geD (rN h) (rN d)), noB (eqQ (rN d) 0)]
def dCondN (h l d : Nat) : List Bool := lawOk h d ++ noB (eqQ (carD h l d) 1) :: (divOk h l d ++ same3 h l d)
def dCondC (h l d : Nat) : List Bool := lawOk h d ++ eqQ (carD h l d) 1 :: (divOk h l d ++ same3 h l d)
def dCond0 (h l d : Nat) : List Bool := eqQ (.ofNat d) 0 :: eqQ (rN d) 0 :: same3 h l d
def dCondG (h l d : Nat) : List Bool := geD (.ofNat h) (.ofNat d) :: noB (eqQ (.ofNat d) 0) :: geD (rN h) (rN d) :: noB (eqQ (rN d) 0) :: same3 h l d
def oN : List (Nat × Bool) := [(1396, false), (145, false), (145, false), (132, false), (2, false), (2, true), (0, true), (251, false), (621, false), (2, false)]
def oC : List (Nat × Bool) := [(1396, false), (145, false), (145, false), (132, false), (2, false), (2, true), (0, true), (251, true), (617, false), (2, false)]
def o0 : List (Nat × Bool) := [(1396, false), (145, false), (145, false), (132, true), (259, true)]
def oG : List (Nat × Bool) := [(1396, false), (145, false), (145, false), (132, false), (2, true), (256, false), (2, true)]
theorem rN_eq {x : Nat} (h : x < 18446744073709551616) : rN x = .ofNat x := reg_eq h
theorem same_all {h l d : Nat} (hh : h < 18446744073709551616) (hl : l < 18446744073709551616) (hd : d < 18446744073709551616) : AllT (same3 h l d) := ⟨same_true 73 186 hd, same_true 72 184 hl, same_true 72 186 hh, trivial⟩
theorem AllT.append {a b : List Bool} (ha : AllT a) (hb : AllT b) : AllT (a ++ b) := by
  induction a with
  | nil => exact hb
  | cons x t ih => exact ⟨ha.1, ih ha.2⟩
theorem geD_n (a b : Nat) : geD (.ofNat a) (.ofNat b) = decide (b ≤ a) := by
  unfold geD; rw [ltQ_nat]
  by_cases h : a < b
  · rw [decide_eq_true h, decide_eq_false (by omega)]; rfl
  · rw [decide_eq_false h, decide_eq_true (by omega)]; rfl
theorem eq0_n (a : Nat) : eqQ (.ofNat a) 0 = decide (a = 0) := eqQ_nat a 0
theorem cond0_true {h l d : Nat} (hh : h < 18446744073709551616) (hl : l < 18446744073709551616) (hd : d < 18446744073709551616) (h0 : d = 0) : AllT (dCond0 h l d) := by
  refine ⟨by rw [eq0_n]; exact decide_eq_true h0, by rw [rN_eq hd, eq0_n]; exact decide_eq_true h0, same_all hh hl hd⟩
theorem condG_true {h l d : Nat} (hh : h < 18446744073709551616) (hl : l < 18446744073709551616) (hd : d < 18446744073709551616) (h0 : d ≠ 0) (h1 : d ≤ h) : AllT (dCondG h l d) := by
  refine ⟨by rw [geD_n]; exact decide_eq_true h1, by rw [eq0_n, decide_eq_false h0]; rfl, by rw [rN_eq hd, rN_eq hh, geD_n]; exact decide_eq_true h1, by rw [rN_eq hd, eq0_n, decide_eq_false h0]; rfl, same_all hh hl hd⟩
theorem div_conds {h l d : Nat} (hh : h < 18446744073709551616) (hl : l < 18446744073709551616) (hd : d < 18446744073709551616) (h1 : h < d) : AllT (lawOk h d) ∧ AllT (divOk h l d ++ same3 h l d) := by
  have h0 : d ≠ 0 := by omega
  have g1 : ltQ (.ofNat h) (.ofNat d) = true := by rw [ltQ_nat]; exact decide_eq_true h1
  have n0 : ∀ x : Nat, ltQ (.ofNat x) 0 = false := fun x => by
    have := ltQ_nat x 0
    have e : ltQ (.ofNat x) 0 = decide (x < 0) := this
    rw [e]; exact decide_eq_false (by omega)
  have nb : ∀ x : Nat, x < 18446744073709551616 → ltQ (.ofNat x) 18446744073709551616 = true := fun x hx => by
    have e : ltQ (.ofNat x) 18446744073709551616 = decide (x < 18446744073709551616) := ltQ_nat x _
    rw [e]; exact decide_eq_true hx
  refine ⟨⟨by rw [geD_n, decide_eq_false (by omega)]; rfl, by rw [eq0_n, decide_eq_false h0]; rfl, trivial⟩, AllT.append ⟨?_, ?_, ?_, ?_, trivial⟩ (same_all hh hl hd)⟩
  · unfold inD; rw [rN_eq hh, rN_eq hl, rN_eq hd, n0, n0, nb l hl, nb d hd]; rfl
  · rw [rN_eq hh, rN_eq hd]; exact g1
  · rw [rN_eq hh, rN_eq hd, geD_n, decide_eq_false (by omega)]; rfl
  · rw [rN_eq hd, eq0_n, decide_eq_false h0]; rfl
theorem sum_n {t r h l : Nat} (e : t + r = h * 18446744073709551616 + l) (hl : l < 18446744073709551616) : (t % 18446744073709551616 + r) % 18446744073709551616 = l := by
  rw [Nat.mod_add_mod, e, Nat.mul_comm, Nat.mul_add_mod]
  exact Nat.mod_eq_of_lt hl
theorem sum_l {h l d : Nat} (hl : l < 18446744073709551616) : ((h * 18446744073709551616 + l) / d * d % 18446744073709551616 + (h * 18446744073709551616 + l) % d) % 18446744073709551616 = l := by
  have e := Nat.div_add_mod (h * 18446744073709551616 + l) d
  rw [Nat.mul_comm] at e
  exact sum_n e hl
theorem natQ_n (x : Nat) : natQ (.ofNat x) = x := rfl
theorem sum_form (Q R d : Nat) : Int.ofNat (Nat.mod (Nat.add (wrapQ .u64 (mulQ (.ofNat Q) (.ofNat d))).toNat (Int.ofNat R).toNat) 18446744073709551616) = .ofNat ((Q * d % 18446744073709551616 + R) % 18446744073709551616) := rfl
theorem sumD_eq {h l d : Nat} (hh : h < 18446744073709551616) (hl : l < 18446744073709551616) (hd : d < 18446744073709551616) : sumD h l d = .ofNat l := by
  unfold sumD prodV
  rw [rN_eq hh, rN_eq hl, rN_eq hd, sum_form, qS_eq, rS_eq, natQ_n, natQ_n, natQ_n, sum_l hl]
theorem car_or (b : Bool) : b = true ∨ noB b = true := by cases b <;> simp [noB]
end
end Go.Proofs.YtipigcgegmedeaaGreat.W21
