/- Going over a well formed list from instruction to instruction. -/
import Derived.Test.YtmijlibnembkaaaMkPk
namespace Go.Proofs.Ytmijlibnembkaaa.Pure
open Go.RowKit Go.Proofs.Ytmijlibnembkaaa.PA Go.Proofs.YtmijlibnembkaaaW.PrintWords Go.Proofs.YtmijlibnembkaaaW.PrintLast Go.Proofs.YtmijlibnembkaaaX
set_option linter.unusedVariables false
set_option linter.unusedSimpArgs false

theorem begFrom_ge (n : Nat) : ∀ (s : List I) (p : Nat), ∀ q ∈ begFrom n s p, p ≤ q := by
 induction n with
 | zero => intro s p q hq; cases hq
 | succ n ih =>
  intro s p q hq
  unfold begFrom at hq
  split at hq
  ·
   rcases List.mem_cons.1 hq with rfl | hq
   ·
    exact Nat.le_refl _
   ·
    have := ih _ _ q hq; omega
  ·
   cases hq

theorem walk_aux (l : List I) (P : Nat → Prop) (hend : P l.length)
  (hs : ∀ p, p < l.length → p ∈ begins l → (plainS (l.drop p)).2 = 0 → fieldB (rd_T43 l p) = false →
   ((plainS (l.drop p)).1 = 1 → P (p + 1) → P p) ∧ ((plainS (l.drop p)).1 = 2 → p + 1 < l.length → p + 1 ∉ begins l → P (p + 2) → P p)) :
  ∀ (n p : Nat) (pre : List Nat), l.length - p ≤ n → p ≤ l.length → firstBad n (l.drop p) p = none → begins l = pre ++ begFrom n (l.drop p) p → (∀ q ∈ pre, q < p) → P p := by
 intro n
 induction n with
 | zero =>
  intro p pre hn hp _ _ _
  have : p = l.length := by omega
  subst this; exact hend
 | succ n ih =>
  intro p pre hn hp hf hb hpre
  by_cases h : p < l.length
  ·
   obtain ⟨t, ht⟩ := rd_drop l p h
   have hw := fun he => plainS_width (l.drop p) he
   have hlen : (l.drop p).length = l.length - p := by simp
   have hs' := hs p h
   rw [ht] at hf
   simp only [firstBad] at hf
   rw [← ht] at hf
   by_cases he : (plainS (l.drop p)).2 = 0
   ·
    rw [if_pos he] at hf
    cases hfb : fieldB (rd_T43 l p) with
    | true => rw [hfb, if_pos rfl] at hf; cases hf
    | false =>
     rw [hfb, if_neg (by decide)] at hf
     have hbe : begFrom (n + 1) (l.drop p) p = p :: begFrom n ((l.drop p).drop (plainS (l.drop p)).1.toNat) (p + (plainS (l.drop p)).1.toNat) := by
      simp only [begFrom]; rw [if_pos he]
     have hmem : p ∈ begins l := by rw [hb, hbe]; simp
     have hs'' := hs' hmem he hfb
     rw [hbe] at hb
     have hw := hw he
     rw [List.drop_drop] at hf hb
     have hnext := ih (p + (plainS (l.drop p)).1.toNat) (pre ++ [p]) (by omega) (by omega) hf (by simpa using hb) (by
      intro q hq
      rcases List.mem_append.1 hq with hq | hq
      ·
       have := hpre q hq; omega
      ·
       simp at hq; omega)
     rcases hw with ⟨h1, _⟩ | ⟨h2, hl2⟩
     ·
      rw [h1] at hnext
      exact hs''.1 h1 hnext
     ·
      rw [h2] at hnext hb
      refine hs''.2 h2 (by omega) ?_ hnext
      intro hm
      rw [hb] at hm
      rcases List.mem_append.1 hm with hm | hm
      ·
       have := hpre _ hm; omega
      ·
       rcases List.mem_cons.1 hm with hm | hm
       ·
        omega
       ·
        have := begFrom_ge _ _ _ _ hm; omega
   ·
    rw [if_neg he] at hf; cases hf
  ·
   have : p = l.length := by omega
   subst this; exact hend

/-- Backwards over the instructions of a list whose instructions are all plain. -/
theorem walk_back (l : List I) (hf : firstBad l.length l 0 = none) (P : Nat → Prop) (hend : P l.length)
  (hs : ∀ p, p < l.length → p ∈ begins l → (plainS (l.drop p)).2 = 0 → fieldB (rd_T43 l p) = false →
   ((plainS (l.drop p)).1 = 1 → P (p + 1) → P p) ∧ ((plainS (l.drop p)).1 = 2 → p + 1 < l.length → p + 1 ∉ begins l → P (p + 2) → P p)) : P 0 :=
 walk_aux l P hend hs l.length 0 [] (by omega) (by omega) (by simpa using hf) (by simp [begins]) (by simp)

theorem plainX_one (kn ok : Bool) (x : I) (t : List I) (h : (plainX kn ok x t).2 = 0) (h1 : (plainX kn ok x t).1 = 1) : x.f0 ≠ 24 ∧ ok = true := by
 unfold plainX at h h1
 repeat' split at h
 all_goals simp_all
theorem plainX_two (kn ok : Bool) (x : I) (t : List I) (h : (plainX kn ok x t).2 = 0) (h1 : (plainX kn ok x t).1 = 2) : x.f0 = 24 ∧ ok = true ∧ x.f2 ≤ 1 ∧ ∃ y s, t = y :: s ∧ y.f0 = 0 ∧ y.f1 = 0 ∧ y.f2 = 0 ∧ y.f3 = 0 := by
 unfold plainX at h h1
 by_cases hk : kn = true
 ·
  by_cases ho : ok = true
  ·
   by_cases h24 : x.f0 = 24
   ·
    by_cases h2 : x.f2 ≤ 1
    ·
     cases t with
     | nil => simp [hk, ho, h24, h2] at h
     | cons y s =>
      by_cases hy : y.f0 = 0 ∧ y.f1 = 0 ∧ y.f2 = 0 ∧ y.f3 = 0
      ·
       exact ⟨h24, ho, h2, y, s, rfl, hy⟩
      ·
       simp [hk, ho, h24, h2, hy] at h
    ·
     simp [hk, ho, h24, h2] at h
   ·
    simp [hk, ho, h24] at h1
  ·
   simp [hk, ho] at h
 ·
  simp [hk] at h

theorem uses_wide : uses 24 = (true, true, false, true) := by
 unfold uses
 rw [show clsB 24 = 0 from by rw [cls_eq _ (by decide) (by decide)]; rfl]
 rfl
theorem wide_off (x : I) (h : x.f0 = 24) (hok : fieldsOk x = true) : x.f3 = 0 := by
 unfold fieldsOk at hok
 rw [h, uses_wide] at hok
 simp only [fieldsX, Bool.and_eq_true, beq_iff_eq] at hok
 exact hok.1.1.1.1.2

/-- A wide load and the slot behind it. -/
theorem wide_here (l : List I) (p : Nat) (h : p + 1 < l.length) (he : (plainS (l.drop p)).2 = 0) (h2 : (plainS (l.drop p)).1 = 2) :
  (rd_T43 l p).f0 = 24 ∧ (rd_T43 l p).f2 ≤ 1 ∧ (rd_T43 l p).f3 = 0 ∧ (rd_T43 l ((p + 1 : Nat) : Int)).f0 = 0 ∧ (rd_T43 l ((p + 1 : Nat) : Int)).f1 = 0 ∧ (rd_T43 l ((p + 1 : Nat) : Int)).f2 = 0 ∧ (rd_T43 l ((p + 1 : Nat) : Int)).f3 = 0 := by
 obtain ⟨t, ht⟩ := rd_drop l p (by omega)
 obtain ⟨t2, ht2⟩ := rd_drop l (p + 1) h
 have htl : t = l.drop (p + 1) := by
  have := congrArg List.tail ht
  simpa using this.symm
 rw [ht] at he h2
 simp only [plainS] at he h2
 obtain ⟨h24, hok, hs, y, s, hy, hz⟩ := plainX_two _ _ _ _ he h2
 rw [htl, ht2] at hy
 injection hy with hy _
 rw [hy]
 exact ⟨h24, hs, wide_off _ h24 hok, hz⟩
theorem narrow_here (l : List I) (p : Nat) (h : p < l.length) (he : (plainS (l.drop p)).2 = 0) (h1 : (plainS (l.drop p)).1 = 1) : (rd_T43 l p).f0 ≠ 24 := by
 obtain ⟨t, ht⟩ := rd_drop l p h
 rw [ht] at he h1
 simp only [plainS] at he h1
 exact (plainX_one _ _ _ _ he h1).1

theorem firstFrom_none {P : Nat → Bool} : ∀ (n i : Nat), firstFrom P n i = none → ∀ j, i ≤ j → j < i + n → P j = false := by
 intro n
 induction n with
 | zero => intro i _ j h1 h2; omega
 | succ n ih =>
  intro i h j h1 h2
  simp only [firstFrom] at h
  by_cases hp : P i = true
  ·
   rw [if_pos hp] at h; cases h
  ·
   rw [if_neg hp] at h
   by_cases e : j = i
   ·
    subst e; simpa using hp
   ·
    exact ih (i + 1) h j (by omega) (by omega)

/-- What 'no error' says of a list. -/
structure Formed (l : List I) : Prop where
 pos : 0 < l.length
 most : l.length ≤ 256
 plain : firstBad l.length l 0 = none
 jumps : ∀ i, i < l.length → i ∈ begins l → (jmp (rd_T43 l i)).2 = true → (tgt l i).2 = true ∧ (tgt l i).1.toNat ∈ begins l

theorem firstBad_err (n : Nat) : ∀ (s : List I) (p : Nat) (q : Nat) (e : Int), firstBad n s p = some (q, e) → e ≠ 0 := by
 induction n with
 | zero => intro s p q e h; cases h
 | succ n ih =>
  intro s p q e h
  cases s with
  | nil => cases h
  | cons x t =>
   simp only [firstBad] at h
   split at h
   ·
    split at h
    ·
     injection h with h; injection h with _ h; omega
    ·
     exact ih _ _ _ _ h
   ·
    rename_i he
    injection h with h; injection h with _ h; rw [← h]; exact he

theorem formed_of (l : List I) (h : (checkR l).2 = 0) : Formed l := by
 unfold checkR at h
 by_cases h0 : l.length = 0 ∨ 256 < l.length
 ·
  rw [if_pos h0] at h; simp at h
 ·
  rw [if_neg h0] at h
  cases hf : firstBad l.length l 0 with
  | some qe =>
   obtain ⟨q, e⟩ := qe
   rw [hf] at h
   exact absurd h (firstBad_err _ _ _ _ _ hf)
  | none =>
   rw [hf] at h
   simp only [orElse_] at h
   cases hj : firstFrom (jumpBad l) l.length 0 with
   | some i => rw [hj] at h; simp [orElse43] at h
   | none =>
    refine ⟨by omega, by omega, hf, fun i hi hb hjm => ?_⟩
    have := firstFrom_none _ _ hj i (by omega) (by omega)
    simpa [jumpBad, hb, hjm] using this
end Go.Proofs.Ytmijlibnembkaaa.Pure
