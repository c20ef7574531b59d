/- Plain facts on the printed prune.made: what becomes of each slot. -/
import Derived.Test.YtmijlibnembkaaaAgPt
import Derived.Test.YtmijlibnembkaaaAgPAx11
namespace Go.Proofs.Ytmijlibnembkaaa.Pure
open Go.RowKit Go.Proofs.Ytmijlibnembkaaa.PA Go.Proofs.YtmijlibnembkaaaW.PrintWords Go.Proofs.YtmijlibnembkaaaW.PrintLast Go.Proofs.YtmijlibnembkaaaX
set_option linter.unusedVariables false
set_option linter.unusedSimpArgs false

abbrev Nt := S34
abbrev Res := List Bool × List Bool × List Int × List Int × Bool
def seen (ns : List Nt) (i : Int) : Bool := (rd_T34 ns i).f0
def condC (c op : Int) : Bool := (decide (c = 5) || decide (c = 6)) && op != 5 && op != 133 && op != 149
def condB (op : Int) : Bool := condC (clsB op) op
theorem condition_aux (a b c d e s : Int) (hs : insn_Class.f a = some s) : prune_condition.f a b c d e = some (condC s a) := by
  simp only [prune_condition.f, hs, Option.bind_some, condC]
  by_cases h5 : s = 5
  · subst h5
    by_cases e5 : a = 5
    · simp [e5]
    · by_cases e6 : a = 133
      · simp [e6]
      · simp [e5, e6]
  · by_cases h6 : s = 6
    · subst h6
      by_cases e5 : a = 5
      · simp [e5]
      · by_cases e6 : a = 133
        · simp [e6]
        · simp [e5, e6]
    · simp [h5, h6]
theorem condition_eq (a b c d e : Int) : prune_condition.f a b c d e = some (condB a) := condition_aux a b c d e (clsB a) rfl
def wd (x : I) : Nat := if x.f0 = 24 then 2 else 1
/-- What is said of an instruction: none: it can't go on; else whether it is kept, and what is written of always. -/
def verdC (op : Int) (cd bh jb th : Bool) : Option (Bool × Option Bool) :=
  if op = 149 then some (true, none) else if op = 5 then (if th = true then some (true, none) else none)
  else if cd = true then (if th = true then some (th, some (!bh)) else if bh = true then some (th, some (!bh)) else none)
  else if bh = true then (if jb = true then (if th = true then some (true, none) else none) else some (true, none)) else none
def putA (A : List Bool) (p : Nat) : Option Bool → List Bool
  | none => A
  | some b => A.set p b

theorem rdOf_set (K : List Bool) (p : Nat) (b : Bool) (h : p < K.length) : rdOf false (K.set p b) (p : Int) = b := by
  simp [rdOf, h]

theorem made_j4 (l : List I) (ns : List Nt) (n : Int) (p W : Nat) (K A : List Bool) (T : List Int) (st : List Bool) (L : Int) (bh jb th cd : Bool) (x : I) (R : Res) (hcd : condB x.f0 = cd)
    (hp : p < l.length) (hsm : l.length < 1000000) (hK : K.length = l.length) (hA : A.length = l.length) (hn0 : 0 ≤ n) (hn1 : n ≤ 2 * p) (hW : W ≤ 2)
    (hF : verdC x.f0 cd bh jb th = none → R = (K.set p true, A, T, [0], false))
    (hR : ∀ kp a, verdC x.f0 cd bh jb th = some (kp, a) → Evt (fun k => prune_made.l0 k l ns [0] (if kp = true then n + W else n) (K.set p kp) (putA A p a) T st L ((p + 1 : Nat) : Int)) R) :
    Evt (fun k => prune_made.j4 k l ns [0] n p W bh jb th K A T st L p x.f0 x.f1 x.f2 x.f3 x.f4) R := by
  have ew : wrap64 ((p : Int) + 1) = ((p + 1 : Nat) : Int) := by unfold wrap64; omega
  have en : wrap64 (n + (W : Int)) = n + (W : Int) := by unfold wrap64; omega
  have hr := rdOf_set K p true (by omega)
  have e4 : ∀ k, prune_made.j4 (k + 1) l ns [0] n p W bh jb th K A T st L p x.f0 x.f1 x.f2 x.f3 x.f4 =
      (if x.f0 = 149 then prune_made.l0 k l ns [0] (n + W) (K.set p true) A T st L ((p + 1 : Nat) : Int)
       else if x.f0 = 5 then (if th = true then prune_made.l0 k l ns [0] (n + W) (K.set p true) A T st L ((p + 1 : Nat) : Int) else some (K.set p true, A, T, [0], false))
       else if cd = true then (if th = true then prune_made.j5 k l ns [0] n p W bh th (K.set p true) A T st L p false else prune_made.j5 k l ns [0] n p W bh th (K.set p true) A T st L p (!bh))
       else if bh = true then (if jb = true then prune_made.j6 k l ns [0] n p W (K.set p true) A T st L p (!th) else prune_made.j6 k l ns [0] n p W (K.set p true) A T st L p false)
       else prune_made.j6 k l ns [0] n p W (K.set p true) A T st L p true) := by
    intro k
    simp only [prune_made.j4, condition_eq, hcd, Option.bind_some, Int.toNat_natCast, ew, en, hr, if_true]
    rw [if_pos (by omega), if_pos (by omega)]
  have e6 : ∀ k b, prune_made.j6 (k + 1) l ns [0] n p W (K.set p true) A T st L p b =
      (if b = true then some (K.set p true, A, T, [0], false) else prune_made.l0 k l ns [0] (n + W) (K.set p true) A T st L ((p + 1 : Nat) : Int)) := by
    intro k b
    cases b
    · simp only [prune_made.j6, ew, en, hr, if_true, Bool.false_eq_true, if_false]
      rw [if_pos (by omega : (0 : Int) ≤ p), if_pos (by rw [List.length_set]; omega)]
    · simp only [prune_made.j6, if_true]
  have e5 : ∀ k b, prune_made.j5 (k + 1) l ns [0] n p W bh th (K.set p true) A T st L p b =
      (if b = true then some (K.set p true, A, T, [0], false) else prune_made.l0 k l ns [0] (if th = true then n + W else n) (K.set p th) (A.set p (!bh)) T st L ((p + 1 : Nat) : Int)) := by
    intro k b
    cases b
    · simp only [prune_made.j5, ew, en, Option.bind_some, Int.toNat_natCast, List.set_set, Bool.false_eq_true, if_false]
      rw [if_pos (by omega : (0 : Int) ≤ p), if_pos (by rw [List.length_set]; omega), if_pos (by omega)]
      cases th <;> simp
    · simp only [prune_made.j5, if_true]
  refine Evt.step2 e4 ?_
  simp only [verdC] at hF hR
  by_cases h1 : x.f0 = 149
  · simp only [h1, if_true] at hF hR ⊢
    simpa [putA] using hR true none rfl
  simp only [h1, if_false] at hF hR ⊢
  by_cases h2 : x.f0 = 5
  · simp only [h2, if_true] at hF hR ⊢
    cases th
    · simp only [Bool.false_eq_true, if_false] at hF hR ⊢
      rw [hF (by trivial)]
      exact Evt.const _
    · simpa [putA] using hR true none rfl
  simp only [h2, if_false] at hF hR ⊢
  cases cd
  · simp only [Bool.false_eq_true, if_false] at hF hR ⊢
    cases bh
    · simp only [Bool.false_eq_true, if_false] at hF hR ⊢
      rw [hF (by trivial)]
      exact Evt.step2 (fun k => e6 k true) (Evt.const _)
    · simp only [if_true] at hF hR ⊢
      cases jb
      · simp only [Bool.false_eq_true, if_false] at hF hR ⊢
        exact Evt.step2 (fun k => e6 k false) (by simpa [putA] using hR true none rfl)
      · simp only [if_true] at hF hR ⊢
        cases th
        · simp only [Bool.false_eq_true, if_false] at hF hR ⊢
          rw [hF (by trivial)]
          exact Evt.step2 (fun k => e6 k (!false)) (Evt.const _)
        · exact Evt.step2 (fun k => e6 k (!true)) (by simpa [putA] using hR true none rfl)
  · simp only [if_true] at hF hR ⊢
    cases th
    · simp only [Bool.false_eq_true, if_false] at hF hR ⊢
      cases bh
      · simp only [Bool.false_eq_true, if_false] at hF hR ⊢
        rw [hF (by trivial)]
        exact Evt.step2 (fun k => e5 k (!false)) (Evt.const _)
      · exact Evt.step2 (fun k => e5 k (!true)) (by simpa [putA] using hR false (some (!true)) rfl)
    · simp only [if_true] at hF hR ⊢
      exact Evt.step2 (fun k => e5 k false) (by simpa [putA] using hR true (some (!bh)) rfl)

def thB (l : List I) (ns : List Nt) (p : Nat) : Bool := if (tgt l p).2 = true then seen ns (tgt l p).1 else false
def bhW (l : List I) (ns : List Nt) (p W : Nat) : Bool := if p + W < l.length then seen ns ((p + W : Nat) : Int) else false
def verd (l : List I) (ns : List Nt) (p : Nat) : Option (Bool × Option Bool) := verdC (rd_T43 l p).f0 (condB (rd_T43 l p).f0) (bhW l ns p (wd (rd_T43 l p))) (tgt l p).2 (thB l ns p)
def mrun (l : List I) (ns : List Nt) : Nat → Nat → Int → List Bool → List Bool → List Int → Res
  | 0, _, n, K, A, T => (K, A, T.set l.length n, [0], true)
  | f + 1, p, n, K, A, T =>
    if (decide (p ∈ begins l) && seen ns p) = true then
      match verd l ns p with
      | none => (K.set p true, A, T.set p n, [0], false)
      | some (kp, a) => mrun l ns f (p + 1) (if kp = true then n + wd (rd_T43 l p) else n) (K.set p kp) (putA A p a) (T.set p n)
    else mrun l ns f (p + 1) n K A (T.set p n)
theorem putA_length (A : List Bool) (p : Nat) (a : Option Bool) : (putA A p a).length = A.length := by
  cases a <;> simp [putA]
theorem wd_le (x : I) : 1 ≤ wd x ∧ wd x ≤ 2 := by unfold wd; split <;> omega

theorem made_j2 (l : List I) (ns : List Nt) (n : Int) (p W : Nat) (K A : List Bool) (T : List Int) (st : List Bool) (L : Int) (a b c d e : Int) (k : Nat) (hp : p < l.length) (hsm : l.length < 1000000) (hns : ns.length = l.length) (hW : W ≤ 2) :
    prune_made.j2 (k + 1) l ns [0] n p W K A T st L p a b c d e = prune_made.j3 k l ns [0] n p W (bhW l ns p W) K A T st L p a b c d e := by
  have ewp : wrap64 ((p : Int) + (W : Int)) = ((p + W : Nat) : Int) := by unfold wrap64; omega
  simp only [prune_made.j2, ewp]
  unfold bhW
  by_cases h : p + W < l.length
  · have h1 : ((p + W : Nat) : Int) < (l.length : Int) := by omega
    have h2 : (0 : Int) ≤ ((p + W : Nat) : Int) := by omega
    have h3 : ((p + W : Nat) : Int) < (ns.length : Int) := by omega
    simp only [h1, h2, h3, h, if_true, seen]
  · have h1 : ¬ ((p + W : Nat) : Int) < (l.length : Int) := by omega
    simp only [h1, h, if_false]
theorem made_j3 (l : List I) (ns : List Nt) (n : Int) (p W : Nat) (bh : Bool) (K A : List Bool) (T : List Int) (st : List Bool) (L : Int) (x : I) (bt : Int × Bool) (R : Res) (ht : Evt (fun k => shape_Target.f k l p) bt) (hns : ns.length = l.length) (hbt : bt.2 = true → 0 ≤ bt.1 ∧ bt.1 < l.length)
    (h : Evt (fun k => prune_made.j4 k l ns [0] n p W bh bt.2 (if bt.2 = true then seen ns bt.1 else false) K A T st L p x.f0 x.f1 x.f2 x.f3 x.f4) R) :
    Evt (fun k => prune_made.j3 k l ns [0] n p W bh K A T st L p x.f0 x.f1 x.f2 x.f3 x.f4) R := by
  refine Evt.step2 (g' := fun k => (shape_Target.f k l p).bind fun bt213 => (if bt213.2 = true then (if 0 ≤ bt213.1 then (if bt213.1 < (ns.length : Int) then (prune_made.j4 k l ns [0] n p W bh bt213.2 ((rd_T34 ns bt213.1).f0) K A T st L p x.f0 x.f1 x.f2 x.f3 x.f4) else none) else none) else (prune_made.j4 k l ns [0] n p W bh bt213.2 false K A T st L p x.f0 x.f1 x.f2 x.f3 x.f4))) (fun k => by simp only [prune_made.j3]) (Evt.bind ht ?_)
  obtain ⟨t, b⟩ := bt
  cases b
  · simpa using h
  · obtain ⟨h0, h1⟩ := hbt rfl
    have h2 : t < (ns.length : Int) := by rw [hns]; exact h1
    refine Evt.congr h (fun k => ?_)
    simp only [if_true] at h0 h2 ⊢
    rw [if_pos h0, if_pos h2]
    rfl
theorem made_loop (l : List I) (hP : Prog l) (ns : List Nt) (hns : ns.length = l.length) : ∀ (f p : Nat) (n : Int) (K A : List Bool) (T : List Int), p + f = l.length → K.length = l.length → A.length = l.length → T.length = l.length + 1 → 0 ≤ n → n ≤ 2 * p →
    Evt (fun k => prune_made.l0 k l ns [0] n K A T (starts l) ((starts l).length : Int) p) (mrun l ns f p n K A T) := by
  have hsm := hP.small
  have hsl := starts_length l
  intro f
  induction f with
  | zero =>
    intro p n K A T hp hK hA hT hn0 hn1
    refine Evt.step2 (g' := fun _ => some (K, A, T.set l.length n, [0], true)) (fun k => ?_) (Evt.const _)
    simp only [prune_made.l0]
    rw [if_neg (by omega), if_pos (by omega), if_pos (by omega)]
    rfl
  | succ f ih =>
    intro p n K A T hp hK hA hT hn0 hn1
    have hpl : p < l.length := by omega
    have ew : wrap64 ((p : Int) + 1) = ((p + 1 : Nat) : Int) := by unfold wrap64; omega
    have hst := starts_get l p hpl
    have e0 : ∀ k, prune_made.l0 (k + 1) l ns [0] n K A T (starts l) ((starts l).length : Int) p = prune_made.j1 k l ns [0] n p K A (T.set p n) (starts l) ((starts l).length : Int) p (!(decide (p ∈ begins l) && seen ns p)) := by
      intro k
      simp only [prune_made.l0, Option.bind_some, Int.toNat_natCast]
      rw [if_pos (by omega), if_pos (by omega), if_pos (by omega), if_pos (by omega), hst]
      cases hb : decide (p ∈ begins l)
      · simp
      · simp only [if_true, Bool.true_and]
        rw [if_pos (by omega)]
        rfl
    refine Evt.step2 e0 ?_
    have hmr : mrun l ns (f + 1) p n K A T = (if (decide (p ∈ begins l) && seen ns p) = true then
      match verd l ns p with
      | none => (K.set p true, A, T.set p n, [0], false)
      | some (kp, a) => mrun l ns f (p + 1) (if kp = true then n + wd (rd_T43 l p) else n) (K.set p kp) (putA A p a) (T.set p n)
    else mrun l ns f (p + 1) n K A (T.set p n)) := rfl
    rw [hmr]
    cases hs : (decide (p ∈ begins l) && seen ns p)
    · rw [if_neg (by decide)]
      refine Evt.step2 (g' := fun k => prune_made.l0 k l ns [0] n K A (T.set p n) (starts l) ((starts l).length : Int) ((p + 1 : Nat) : Int)) (fun k => ?_) (ih (p + 1) n K A (T.set p n) (by omega) hK hA (by simpa using hT) hn0 (by omega))
      simp only [prune_made.j1, Bool.not_false, if_true, ew]
    · rw [if_pos rfl]
      have hb : p ∈ begins l := by simp only [Bool.and_eq_true, decide_eq_true_eq] at hs; exact hs.1
      obtain ⟨hw1, hw2⟩ := wd_le (rd_T43 l p)
      have e1 : ∀ k, prune_made.j1 (k + 1) l ns [0] n p K A (T.set p n) (starts l) ((starts l).length : Int) p (!true) = prune_made.j2 k l ns [0] n p (wd (rd_T43 l p) : Int) K A (T.set p n) (starts l) ((starts l).length : Int) p (rd_T43 l p).f0 (rd_T43 l p).f1 (rd_T43 l p).f2 (rd_T43 l p).f3 (rd_T43 l p).f4 := by
        intro k
        simp only [prune_made.j1, insn_Wide.f, Option.bind_some, Bool.not_true, Bool.false_eq_true, if_false]
        rw [if_pos (by omega), if_pos (by omega)]
        unfold wd
        by_cases h24 : (rd_T43 l p).f0 = 24
        · rw [if_pos (by simp [h24]), if_pos h24]; rfl
        · rw [if_neg (by simpa using h24), if_neg h24]; rfl
      refine Evt.step2 e1 ?_
      refine Evt.step2 (fun k => made_j2 l ns n p _ K A _ _ _ _ _ _ _ _ k hpl hsm hns hw2) ?_
      have hT2 := Target_eq l hP p hpl
      rw [if_pos hb] at hT2
      refine made_j3 l ns n p _ _ K A _ _ _ _ _ _ hT2 hns (tgt_range l p) ?_
      refine made_j4 l ns n p _ K A (T.set p n) (starts l) _ (bhW l ns p _) (tgt l p).2 _ _ (rd_T43 l p) _ rfl hpl hsm hK hA hn0 hn1 hw2 ?_ ?_
      · intro hv
        have hv' : verd l ns p = none := hv
        simp only [hv']
      · intro kp a hv
        have hv' : verd l ns p = some (kp, a) := hv
        simp only [hv']
        refine ih (p + 1) _ _ _ _ (by omega) (by simpa using hK) (by rw [putA_length]; exact hA) (by simpa using hT) ?_ ?_
        · split <;> omega
        · split <;> omega
end Go.Proofs.Ytmijlibnembkaaa.Pure
