/- Plain facts on the document's answer for layers 2 and 4: posternref02.Plain, posternref04.Begin, To, In, wrong. -/
import Derived.Test.YtmijlibnembkaaaMkPt
import Derived.Test.YtmijlibnembkaaaMkPAx18
namespace Go.Proofs.Ytmijlibnembkaaa.Pure
open Go.RowKit Go.Proofs.Ytmijlibnembkaaa.PA Go.Proofs.YtmijlibnembkaaaW.PrintWords Go.Proofs.YtmijlibnembkaaaW.PrintLast Go.Proofs.YtmijlibnembkaaaX
set_option linter.unusedVariables false
set_option linter.unusedSimpArgs false

/-! ### which operations there are, what they use -/
theorem rknown_byte : byte (fun op => posternref02_Known.f 3 op == some (knownB op)) = true := by decide +kernel
theorem rknown (op : Int) (h0 : 0 ≤ op) (h1 : op < 256) (k : Nat) (hk : 3 ≤ k) : posternref02_Known.f k op = some (knownB op) :=
 up (fun k => posternref02_Known.mono op k) (by have := byte_all rknown_byte op h0 h1; simpa using this) k hk
theorem ruses_byte : byte (fun op => !knownB op || posternref02_Uses.f 3 op == some (uses op)) = true := by decide +kernel
theorem ruses (op : Int) (h0 : 0 ≤ op) (h1 : op < 256) (hkn : knownB op = true) (k : Nat) (hk : 3 ≤ k) : posternref02_Uses.f k op = some (uses op) :=
 up (fun k => posternref02_Uses.mono op k) (by have := byte_all ruses_byte op h0 h1; simpa [hkn] using this) k hk

/-! ### Plain -/
def badU (u : Bool × Bool × Bool × Bool) (x : I) : Bool :=
 (u.1 && decide (x.f1 > 10)) || (!u.1 && x.f1 != 0) || (u.2.1 && decide (x.f2 > 10)) || (!u.2.1 && x.f2 != 0) || (!u.2.2.1 && x.f3 != 0) || (!u.2.2.2 && x.f4 != 0)
theorem le10 (n : Int) : decide (n ≤ 10) = !decide (n > 10) := by
 by_cases h : n > 10
 ·
  rw [decide_eq_true h, decide_eq_false (by omega)]; rfl
 ·
  rw [decide_eq_false h, decide_eq_true (by omega)]; rfl
theorem fields_bad (u : Bool × Bool × Bool × Bool) (x : I) :
  fieldsX (bif u.1 then 0 else x.f1) (bif u.2.1 then 0 else x.f2) (bif u.2.2.1 then 0 else x.f3) (bif u.2.2.2 then 0 else x.f4) x = (!badU u x && !(x.f0 == 133 && decide (1 < x.f2))) := by
 obtain ⟨a, b, c, d⟩ := u
 unfold fieldsX badU
 by_cases h1 : x.f1 = 0 <;> by_cases h2 : x.f2 = 0 <;> by_cases h3 : x.f3 = 0 <;> by_cases h4 : x.f4 = 0 <;> by_cases h5 : x.f1 > 10 <;> by_cases h6 : x.f2 > 10 <;>
  (first | (exfalso; omega) | (rw [le10, le10]; cases a <;> cases b <;> cases c <;> cases d <;> simp [h1, h2, h3, h4, h5, h6, bne]))
theorem stepA {α : Type} (J : Bool → α) (R : α) (a : Bool) (m : Int) : (if a = true then (if m > 10 then J true else R) else (if m = 0 then R else J true)) = if ((a && decide (m > 10)) || (!a && m != 0)) = true then J true else R := by
 cases a
 ·
  by_cases h : m = 0
  ·
   simp [h]
  ·
   simp [h]
 ·
  by_cases h : m > 10
  ·
   simp [h]
  ·
   simp [h]
theorem stepC {α : Type} (J : Bool → α) (R : α) (a : Bool) (m : Int) : (if a = true then R else (if m = 0 then R else J true)) = if (!a && m != 0) = true then J true else R := by
 cases a
 ·
  by_cases h : m = 0
  ·
   simp [h]
  ·
   simp [h]
 ·
  simp
theorem stepD {α : Type} (J : Bool → α) (a : Bool) (m : Int) : (if a = true then J false else J (m != 0)) = J (!a && m != 0) := by
 cases a <;> simp
theorem stepE {α : Type} (J : Bool → α) (p q r s : Bool) : (if p = true then J true else if q = true then J true else if r = true then J true else J s) = J (p || q || r || s) := by
 cases p <;> cases q <;> cases r <;> simp
theorem rplain_j0 (l : List I) (i : Nat) (h : i < l.length) (x : I) (hx : rd_T43 l (i : Int) = x) (h0 : 0 ≤ x.f0) (h1 : x.f0 < 256) (k : Nat) (kn : Bool) (u : Bool × Bool × Bool × Bool) (hkn : posternref02_Known.f k x.f0 = some kn) (hu : kn = true → posternref02_Uses.f k x.f0 = some u)
  (J : Bool → Option (Int × Int)) (hj : ∀ b, posternref02_Plain.j1 k l (i : Int) b x.f0 x.f1 x.f2 x.f3 x.f4 = J b) :
  posternref02_Plain.j0 (k + 1) l (i : Int) false = if kn = true then J (badU u x) else some (0, 41) := by
 have ew : wrap64 x.f0 = x.f0 := by unfold wrap64; omega
 simp only [posternref02_Plain.j0, hx, ew, hkn, Option.bind_some, hj, Bool.false_eq_true, if_false]
 rw [if_pos (by omega), if_pos (by omega)]
 cases kn
 ·
  rw [if_neg (by decide), if_neg (by decide)]
 ·
  rw [if_pos rfl, if_pos rfl, hu rfl, Option.bind_some]
  obtain ⟨a, b, c, d⟩ := u
  simp only [stepD, stepC, stepA]
  rw [stepE]
  simp only [badU, Bool.or_assoc]
def widR : List I → Int × Int
 | [] => (0, 42)
 | y :: _ => if y.f0 = 0 ∧ y.f1 = 0 ∧ y.f2 = 0 ∧ y.f3 = 0 then (2, 0) else (0, 42)
theorem rplain_j1 (l : List I) (i : Nat) (h : i < l.length) (hl : l.length < 1000000) (x : I) (b : Bool) (k : Nat) :
  posternref02_Plain.j1 (k + 2) l (i : Int) b x.f0 x.f1 x.f2 x.f3 x.f4 = some (plainX true (!b && !(x.f0 == 133 && decide (1 < x.f2))) x (l.drop (i + 1))) := by
 have e2 : ∀ c, posternref02_Plain.j2 (k + 1) l (i : Int) c x.f0 x.f1 x.f2 x.f3 x.f4 = if c = true then (some (0, 42) : Option (Int × Int)) else (if x.f0 = 24 then some (widR (l.drop (i + 1))) else some (1, 0)) := by
  intro c
  have ew : wrap64 ((i : Int) + 1) = ((i + 1 : Nat) : Int) := by unfold wrap64; omega
  have el : wrap64 ((l.length : Int) - 1) = ((l.length - 1 : Nat) : Int) := by unfold wrap64; omega
  simp only [posternref02_Plain.j2, ew, el]
  by_cases hc : c = true
  ·
   rw [if_pos hc, if_pos hc]
  ·
   rw [if_neg hc, if_neg hc]
   by_cases h24 : x.f0 = 24
   ·
    rw [if_pos h24, if_pos h24]
    by_cases hlast : i + 1 < l.length
    ·
     obtain ⟨t, ht⟩ := rd_drop l (i + 1) hlast
     rw [if_neg (by omega), if_pos (by omega), if_pos (by omega), ht]
     simp only [widR]
     generalize rd_T43 l ((i + 1 : Nat) : Int) = y
     by_cases a0 : y.f0 = 0 <;> by_cases a1 : y.f1 = 0 <;> by_cases a2 : y.f2 = 0 <;> by_cases a3 : y.f3 = 0 <;> simp [a0, a1, a2, a3]
    ·
     rw [if_pos (by omega), List.drop_eq_nil_of_le (by omega)]; rfl
   ·
    rw [if_neg h24, if_neg h24]
 simp only [posternref02_Plain.j1, e2]
 unfold plainX
 cases b
 ·
  by_cases h133 : x.f0 = 133
  ·
   by_cases h2 : x.f2 > 1
   ·
    simp [h133, h2]
   ·
    simp [h133, h2]
  ·
   by_cases h24 : x.f0 = 24
   ·
    by_cases h2 : x.f2 > 1
    ·
     have : ¬ x.f2 ≤ 1 := by omega
     simp [h24, h2, this]
    ·
     have : x.f2 ≤ 1 := by omega
     simp only [h24, h2, this, widR]
     cases l.drop (i + 1) <;> simp
   ·
    simp [h133, h24]
 ·
  simp
theorem rplain (l : List I) (hP : Prog l) (i : Nat) (h : i < l.length) (k : Nat) (hk : 7 ≤ k) : posternref02_Plain.f k l (i : Int) = some (plainS (l.drop i)) := by
 obtain ⟨m, rfl⟩ : ∃ m, k = m + 3 := ⟨k - 3, by omega⟩
 have hok := hP.at_ i h
 obtain ⟨t, ht⟩ := rd_drop l i h
 have htl : t = l.drop (i + 1) := by
  have := congrArg List.tail ht
  simpa using this.symm
 unfold posternref02_Plain.f
 rw [if_neg (by omega), show decide ((i : Int) ≥ (l.length : Int)) = false from by simp; omega]
 rw [rplain_j0 l i h _ rfl hok.1.1 hok.1.2 (m + 2) _ _ (rknown _ hok.1.1 hok.1.2 _ (by omega)) (fun hkn => ruses _ hok.1.1 hok.1.2 hkn _ (by omega)) _ (fun b => rplain_j1 l i h hP.small _ b m), ht]
 simp only [plainS, htl, fieldsOk]
 rw [fields_bad]
 cases hkn : knownB (rd_T43 l (i : Int)).f0
 ·
  rw [if_neg (by decide)]
  unfold plainX
  rw [if_neg (by decide)]
 ·
  rw [if_pos rfl]
end Go.Proofs.Ytmijlibnembkaaa.Pure
