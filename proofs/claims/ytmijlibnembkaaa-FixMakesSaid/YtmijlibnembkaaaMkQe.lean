/- The document's Check (layer 4) and the program's Check answer with the same error. -/
import Derived.Test.YtmijlibnembkaaaMkQd
namespace Go.Proofs.Ytmijlibnembkaaa.Pure
open Go.RowKit Go.Proofs.Ytmijlibnembkaaa.PA Go.Proofs.YtmijlibnembkaaaW.PrintWords Go.Proofs.YtmijlibnembkaaaW.PrintLast Go.Proofs.YtmijlibnembkaaaX
set_option linter.unusedVariables false
set_option linter.unusedSimpArgs false

theorem firstFrom_some (P : Nat → Bool) : ∀ (n i : Nat), (firstFrom P n i).isSome = true ↔ ∃ j, i ≤ j ∧ j < i + n ∧ P j = true := by
 intro n
 induction n with
 | zero => intro i; simp only [firstFrom, Option.isSome_none, Bool.false_eq_true, false_iff]; rintro ⟨j, h1, h2, _⟩; omega
 | succ n ih =>
  intro i
  simp only [firstFrom]
  by_cases hp : P i = true
  ·
   rw [if_pos hp]
   exact ⟨fun _ => ⟨i, by omega, by omega, hp⟩, fun _ => rfl⟩
  ·
   rw [if_neg hp, ih]
   constructor
   ·
    rintro ⟨j, h1, h2, h3⟩; exact ⟨j, by omega, by omega, h3⟩
   ·
    rintro ⟨j, h1, h2, h3⟩
    refine ⟨j, ?_, by omega, h3⟩
    by_cases e : j = i
    ·
     subst e; exact absurd h3 hp
    ·
     omega
theorem firstEnd_some (l : List I) (pa : List Int) : ∀ (n i : Nat), (firstEnd l pa n i).isSome = true ↔ ∃ j, i ≤ j ∧ j < i + n ∧ endBad l pa j = true := by
 intro n
 induction n with
 | zero => intro i; simp only [firstEnd, Option.isSome_none, Bool.false_eq_true, false_iff]; rintro ⟨j, h1, h2, _⟩; omega
 | succ n ih =>
  intro i
  simp only [firstEnd]
  by_cases hp : endBad l pa i = true
  ·
   rw [if_pos hp]
   exact ⟨fun _ => ⟨i, by omega, by omega, hp⟩, fun _ => rfl⟩
  ·
   rw [if_neg hp, ih]
   constructor
   ·
    rintro ⟨j, h1, h2, h3⟩; exact ⟨j, by omega, by omega, h3⟩
   ·
    rintro ⟨j, h1, h2, h3⟩
    refine ⟨j, ?_, by omega, h3⟩
    by_cases e : j = i
    ·
     subst e; exact absurd h3 hp
    ·
     omega
theorem anyFrom_some (P : Nat → Bool) : ∀ (n i : Nat), anyFrom P n i = true ↔ ∃ j, i ≤ j ∧ j < i + n ∧ P j = true := by
 intro n
 induction n with
 | zero => intro i; simp only [anyFrom, Bool.false_eq_true, false_iff]; rintro ⟨j, h1, h2, _⟩; omega
 | succ n ih =>
  intro i
  simp only [anyFrom, Bool.or_eq_true]
  rw [ih]
  constructor
  ·
   rintro (h | ⟨j, h1, h2, h3⟩)
   ·
    exact ⟨i, by omega, by omega, h⟩
   ·
    exact ⟨j, by omega, by omega, h3⟩
  ·
   rintro ⟨j, h1, h2, h3⟩
   by_cases e : j = i
   ·
    subst e; exact .inl h3
   ·
    exact .inr ⟨j, by omega, by omega, h3⟩

theorem mem_begI (l : List I) (x : Int) : x ∈ begI l ↔ 0 ≤ x ∧ x.toNat ∈ begins l := by
 simp only [begI, ints, List.mem_map]
 constructor
 ·
  rintro ⟨a, ha, rfl⟩; exact ⟨by omega, by simpa using ha⟩
 ·
  rintro ⟨h0, h⟩; exact ⟨x.toNat, h, by omega⟩
/-- Not a bad jump: what To tells is the target. -/
theorem jump_same (l : List I) (q : Nat) (hq : q ∈ begins l) : jumpBad l q = jbR l q := by
 unfold jumpBad jbR
 rw [toR_tgt, decide_eq_true hq, Bool.true_and]
 by_cases hj : (jmp (rd_T43 l (q : Int))).2 = true
 ·
  have h2 : (toR (rd_T43 l (q : Int)) q).2 = true := by unfold toR; rw [if_pos hj]
  rw [hj, h2, Bool.true_and, Bool.true_and]
  congr 1
  by_cases hr : 0 ≤ (toR (rd_T43 l (q : Int)) q).1 ∧ (toR (rd_T43 l (q : Int)) q).1 < l.length
  ·
   rw [if_pos ⟨rfl, hr⟩, h2, Bool.true_and]
   simp only [mem_begI]
   by_cases hm : (toR (rd_T43 l (q : Int)) q).1.toNat ∈ begins l
   ·
    rw [decide_eq_true hm, decide_eq_true ⟨hr.1, hm⟩]
   ·
    rw [decide_eq_false hm, decide_eq_false (fun h => hm h.2)]
  ·
   rw [if_neg (fun h => hr h.2), Bool.false_and]
   symm
   apply decide_eq_false
   intro hm
   obtain ⟨h0, h1⟩ := (mem_begI l _).1 hm
   have := begins_lt l _ h1
   exact hr ⟨h0, by omega⟩
 ·
  have h2 : (toR (rd_T43 l (q : Int)) q).2 = false := by unfold toR; rw [if_neg hj]
  rw [h2, show (jmp (rd_T43 l (q : Int))).2 = false from by simpa using hj]; rfl
theorem tgt_of (l : List I) (q : Nat) (hj : jbR l q = false) (h2 : (toR (rd_T43 l (q : Int)) q).2 = true) : tgt l q = toR (rd_T43 l (q : Int)) q ∧ 0 ≤ (tgt l q).1 ∧ (tgt l q).1.toNat ∈ begins l := by
 unfold jbR at hj
 rw [h2, Bool.true_and, Bool.not_eq_false', decide_eq_true_eq] at hj
 obtain ⟨h0, h1⟩ := (mem_begI l _).1 hj
 have := begins_lt l _ h1
 have e : tgt l q = toR (rd_T43 l (q : Int)) q := by rw [toR_tgt, if_pos ⟨h2, h0, by omega⟩]
 rw [e]
 exact ⟨rfl, h0, h1⟩
theorem cross_same (l : List I) (hP : Prog l) (hl : l.length ≠ 0) (q : Nat) (hq : q ∈ begins l) (hj : jbR l q = false) : crossBad l (parts l) q = cbR l (parts l) q := by
 have hpa := parts_ok l hP hl
 have h00 : (0 : Int) ∈ parts l := (parts_mem l hl 0).2 (.inl rfl)
 have hsm := hP.small
 have hps : (parts l).length < 1000000 := by
  have := parts_same l hP hl
  have hle : ∀ n t, (partsFrom l n t).length ≤ n := by
   intro n
   induction n with
   | zero => intro t; exact Nat.le_refl _
   | succ n ih => intro t; unfold partsFrom; have := ih (t + 1); split <;> simp <;> omega
  have := hle l.length 0
  rw [parts_same l hP hl] at this
  omega
 unfold crossBad cbR
 rw [decide_eq_true hq, Bool.true_and]
 cases h2 : (toR (rd_T43 l (q : Int)) q).2 with
 | false =>
  have : (tgt l q).2 = false := by rw [toR_tgt, if_neg (by rw [h2]; simp)]
  rw [this]; rfl
 | true =>
  obtain ⟨e, h0, _⟩ := tgt_of l q hj h2
  rw [e, h2]
  rw [e] at h0
  have hpi := part_iff (parts l) hpa.lt hps h00 (toR (rd_T43 l (q : Int)) q).1 (q : Int) h0 (by omega)
  by_cases h133 : (rd_T43 l (q : Int)).f0 = 133
  ·
   rw [decide_eq_true h133, decide_eq_false (fun h => h h133)]; rfl
  ·
   rw [decide_eq_false h133, decide_eq_true h133]
   by_cases ho : ofR (parts l) (toR (rd_T43 l (q : Int)) q).1 = ofR (parts l) (q : Int)
   ·
    rw [decide_eq_true ho, decide_eq_false (fun h => h (hpi.2 ho))]; rfl
   ·
    rw [decide_eq_false ho, decide_eq_true (show partOf (parts l) (toR (rd_T43 l (q : Int)) q).1 ≠ partOf (parts l) (q : Int) from fun h => ho (hpi.1 h))]; rfl

theorem lastB_spec (l : List I) (h0 : 0 ∈ begins l) : ∀ n, lastB l n ∈ begins l ∧ ∀ b ∈ begins l, b ≤ n → b ≤ lastB l n := by
 intro n
 induction n with
 | zero => exact ⟨h0, fun b _ hb => hb⟩
 | succ n ih =>
  unfold lastB
  by_cases h : n + 1 ∈ begins l
  ·
   rw [if_pos h]; exact ⟨h, fun b _ hb => hb⟩
  ·
   rw [if_neg h]
   refine ⟨ih.1, fun b hb hbn => ih.2 b hb ?_⟩
   by_cases e : b = n + 1
   ·
    subst e; exact absurd hb h
   ·
    omega
theorem lastB_is (l : List I) (h0 : 0 ∈ begins l) (n at_ : Nat) (h1 : at_ ∈ begins l) (h2 : at_ ≤ n) (h3 : ∀ b ∈ begins l, b ≤ n → b ≤ at_) : lastB l n = at_ := by
 have := lastB_spec l h0 n
 have := this.2 at_ h1 h2
 have := h3 (lastB l n) (lastB_spec l h0 n).1 (lastB_le l n)
 omega
theorem bg_index (l : List I) (b : Nat) (hb : b ∈ begins l) : ∃ i, i < (begins l).length ∧ b = bg l i := by
 obtain ⟨i, hi, e⟩ := List.mem_iff_getElem.1 hb
 exact ⟨i, hi, by rw [bg_get l i hi]; exact e.symm⟩
theorem bg_le (l : List I) (p q : Nat) (hp : p < (begins l).length) (h : bg l q ≤ bg l p) (hq : q < (begins l).length) : q ≤ p := by
 rcases Nat.lt_or_ge p q with h' | h'
 ·
  have := bg_mono l p q hq h'; omega
 ·
  exact h'
theorem bg_le' (l : List I) (p q : Nat) (hp : p < (begins l).length) (h : q ≤ p) : bg l q ≤ bg l p := by
 rcases Nat.lt_or_ge q p with h' | h'
 ·
  have := bg_mono l q p hp h'; omega
 ·
  have : q = p := by omega
  subst this; exact Nat.le_refl _

theorem ends_same (l : List I) (hl : 0 < l.length) (pa : List Int) (hpa : PartsOk l pa) (h00 : (0 : Int) ∈ pa) (h0 : 0 ∈ begins l) (hin : ∀ x ∈ pa, x.toNat ∈ begins l) :
  (∃ j, j < pa.length ∧ endBad l pa j = true) ↔ (∃ p, p < (begins l).length ∧ ebR l pa p = true) := by
 have spec := fun x (hx : (0 : Int) ≤ x) => ofR_spec pa hpa.lt h00 x hx
 have rise : ∀ i j : Nat, (hi : i < pa.length) → (hj : j < pa.length) → i < j → pa.getD i 0 < pa.getD j 0 := by
  intro i j hi hj hij
  have := List.pairwise_iff_getElem.1 hpa.lt i j hi hj hij
  simpa [hi, hj] using this
 have eb : ∀ j p, endAt l pa j = bg l p → (endBad l pa j = (!decide ((rd_T43 l ((bg l p : Nat) : Int)).f0 = 149) && !decide ((rd_T43 l ((bg l p : Nat) : Int)).f0 = 5))) := by
  intro j p e
  unfold endBad
  rw [e]
  simp only [ne_eq, decide_not]
 constructor
 ·
  rintro ⟨j, hj, hbad⟩
  have hls := lastB_spec l h0 ((if j + 1 < pa.length then (pa.getD (j + 1) 0).toNat else l.length) - 1)
  have hle := lastB_le l ((if j + 1 < pa.length then (pa.getD (j + 1) 0).toNat else l.length) - 1)
  obtain ⟨p, hp, hbp⟩ := bg_index l _ hls.1
  have he : endAt l pa j = bg l p := hbp
  rw [eb j p he] at hbad
  refine ⟨p, hp, ?_⟩
  unfold ebR
  rw [hbad, Bool.and_true]
  have : contR l pa p = false := by
   unfold contR
   by_cases hlast : p + 1 < (begins l).length
   ·
    rw [decide_eq_true hlast, Bool.true_and, beq_eq_false_iff_ne]
    intro ho
    have hnb := bg_mono l p (p + 1) hlast (by omega)
    have hnm := bg_mem l (p + 1) hlast
    have hnl := begins_lt l _ hnm
    rw [hbp] at hls hle
    by_cases hj1 : j + 1 < pa.length
    ·
     rw [if_pos hj1] at hls hle
     have hm := getD_mem pa (j + 1) hj1
     have hr := hpa.range _ hm
     have hpos := rise j (j + 1) hj hj1 (by omega)
     have hr0 := hpa.range _ (getD_mem pa j hj)
     have hge : (pa.getD (j + 1) 0) ≤ ((bg l (p + 1) : Nat) : Int) := by
      rcases Nat.lt_or_ge ((pa.getD (j + 1) 0).toNat - 1) (bg l (p + 1)) with h | h
      ·
       omega
      ·
       have := hls.2 _ hnm h; omega
     have h1 := (spec ((bg l (p + 1) : Nat) : Int) (by omega)).2.2 _ hm hge
     have h2 := (spec ((bg l p : Nat) : Int) (by omega)).2.1
     omega
    ·
     rw [if_neg hj1] at hls
     have := hls.2 _ hnm (by omega)
     omega
   ·
    rw [decide_eq_false hlast, Bool.false_and]
  rw [this]; rfl
 ·
  rintro ⟨p, hp, hbad⟩
  have hbm := bg_mem l p hp
  have hbl := begins_lt l _ hbm
  have hcont : contR l pa p = false := by
   unfold ebR at hbad
   cases hc : contR l pa p with
   | false => rfl
   | true => rw [hc] at hbad; cases hbad
  have hrest : (!decide ((rd_T43 l ((bg l p : Nat) : Int)).f0 = 149) && !decide ((rd_T43 l ((bg l p : Nat) : Int)).f0 = 5)) = true := by
   unfold ebR at hbad
   rw [hcont] at hbad
   simpa using hbad
  by_cases hlast : p + 1 < (begins l).length
  ·
   have ho : ofR pa ((bg l (p + 1) : Nat) : Int) ≠ ofR pa ((bg l p : Nat) : Int) := by
    unfold contR at hcont
    rw [decide_eq_true hlast, Bool.true_and, beq_eq_false_iff_ne] at hcont
    exact hcont
   have hnb := bg_mono l p (p + 1) hlast (by omega)
   obtain ⟨n1, n2, n3⟩ := spec ((bg l (p + 1) : Nat) : Int) (by omega)
   obtain ⟨a1, a2, a3⟩ := spec ((bg l p : Nat) : Int) (by omega)
   have hr := hpa.range _ n1
   have hgt : ((bg l p : Nat) : Int) < ofR pa ((bg l (p + 1) : Nat) : Int) := by
    rcases Int.lt_or_le ((bg l p : Nat) : Int) (ofR pa ((bg l (p + 1) : Nat) : Int)) with h | h
    ·
     exact h
    ·
     have h1 := a3 _ n1 h
     have h2 := n3 _ a1 (by omega)
     exact absurd (by omega) ho
   obtain ⟨i, hi, ei⟩ := bg_index l _ (hin _ n1)
   have hi1 : p + 1 ≤ i := by
    rcases Nat.lt_or_ge p i with h | h
    ·
     exact h
    ·
     have := bg_le' l p i hp h; omega
   have hi2 := bg_le' l i (p + 1) hi hi1
   have hPn : ofR pa ((bg l (p + 1) : Nat) : Int) = ((bg l (p + 1) : Nat) : Int) := by omega
   rw [hPn] at n1
   obtain ⟨j', hj', ej⟩ := List.mem_iff_getElem.1 n1
   have ej' : pa.getD j' 0 = ((bg l (p + 1) : Nat) : Int) := by simpa [hj'] using ej
   obtain ⟨i0, hi0, ei0⟩ := List.mem_iff_getElem.1 h00
   have ei0' : pa.getD i0 0 = 0 := by simpa [hi0] using ei0
   have hj0 : j' ≠ 0 := by
    intro e
    subst e
    rcases Nat.eq_zero_or_pos i0 with h | h
    ·
     subst h; omega
    ·
     have := rise 0 i0 hj' hi0 h; omega
   refine ⟨j' - 1, by omega, ?_⟩
   rw [eb (j' - 1) p ?_]
   ·
    exact hrest
   ·
    unfold endAt
    rw [if_pos (by omega), show j' - 1 + 1 = j' by omega, ej']
    refine lastB_is l h0 _ _ hbm (by omega) (fun b hb hbn => ?_)
    obtain ⟨i2, hi2', rfl⟩ := bg_index l b hb
    rcases Nat.lt_or_ge p i2 with h | h
    ·
     have := bg_le' l i2 (p + 1) hi2' h; omega
    ·
     exact bg_le' l p i2 hp h
  ·
   have hpl : 0 < pa.length := List.length_pos_of_mem h00
   refine ⟨pa.length - 1, by omega, ?_⟩
   rw [eb (pa.length - 1) p ?_]
   ·
    exact hrest
   ·
    unfold endAt
    rw [if_neg (by omega)]
    refine lastB_is l h0 _ _ hbm (by omega) (fun b hb hbn => ?_)
    obtain ⟨i2, hi2', rfl⟩ := bg_index l b hb
    exact bg_le' l p i2 hp (by omega)

theorem any_iff (l : List Nat) (P : Nat → Bool) : l.any P = true ↔ ∃ q, q ∈ l ∧ P q = true := by
 simp only [List.any_eq_true]
theorem bool_of_iff {a b : Bool} (h : a = true ↔ b = true) : a = b := by
 cases a <;> cases b <;> simp at h ⊢

/-- The document's Check answers with the program's error. -/
theorem rcheck (l : List I) (hP : Prog l) : ∃ q, Evt (fun k => posternref04_Check.f k l) (q, (checkR l).2) := by
 have hsm := hP.small
 unfold posternref04_Check.f checkR
 by_cases h0 : l.length = 0
 ·
  rw [if_pos (.inl h0)]
  refine ⟨0, Evt.congr (g' := fun k => posternref04_Check.j0 k l true) ?_ (fun k => by rw [if_pos (by omega)])⟩
  apply Evt.step2
  ·
   intro k
   simp only [posternref04_Check.j0, if_true]
   rfl
  ·
   exact Evt.const _
 ·
  by_cases h1 : 256 < l.length
  ·
   rw [if_pos (.inr h1)]
   refine ⟨0, Evt.congr (g' := fun k => posternref04_Check.j0 k l true) ?_ (fun k => by rw [if_neg (by omega), show decide ((l.length : Int) > 256) = true from by simp; omega])⟩
   apply Evt.step2
   ·
    intro k
    simp only [posternref04_Check.j0, if_true]
    rfl
   ·
    exact Evt.const _
  ·
   rw [if_neg (by omega)]
   have hpa := parts_ok l hP h0
   have h00 : (0 : Int) ∈ parts l := (parts_mem l h0 0).2 (.inl rfl)
   have hbl := begI_length l
   have hbn := begins_length l
   have hps : (parts l).length < 1000000 := by
    have hle : ∀ n t, (partsFrom l n t).length ≤ n := by
     intro n
     induction n with
     | zero => intro t; exact Nat.le_refl _
     | succ n ih => intro t; unfold partsFrom; have := ih (t + 1); split <;> simp <;> omega
    have := hle l.length 0
    rw [parts_same l hP h0] at this
    omega
   have r3 := rc3 l hP (parts l) hps (begins l).length 0 (by omega)
   have r2 := rc2 l hP (parts l) hps _ r3 (begins l).length 0 (by omega)
   have r1 := rc1 l hP (parts l) hps _ r2 (begins l).length 0 (by omega)
   have r0 := rc0 l hP _ l.length 0 (by omega) (by omega) (fun _ => by
    obtain ⟨q, h⟩ := r1
    exact ⟨q, Evt.bind (rbegin l hP) (Evt.bind (rparts l hP h0) h)⟩)
   rw [List.drop_zero, List.drop_zero] at r0
   obtain ⟨q, hq⟩ := r0
   refine ⟨q, ?_⟩
   have herr : (orElse_ (firstBad l.length l 0) (orElse43 (firstFrom (jumpBad l) l.length 0) (orElse43 (firstFrom (crossBad l (parts l)) l.length 0) (orElse44 (firstEnd l (parts l) (parts l).length 0) (0, 0))))).2 = errOr (firstBad l.length l 0) (if (begins l).any (jbR l) = true then 43 else if (begins l).any (cbR l (parts l)) = true then 43 else if anyFrom (ebR l (parts l)) (begins l).length 0 = true then 44 else 0) := by
    cases hf : firstBad l.length l 0 with
    | some qe => obtain ⟨q, e⟩ := qe; rfl
    | none =>
     simp only [orElse_, errOr]
     have hb0 := begins_zero l (fun e => h0 (by rw [e]; rfl)) hf
     have e1 : (firstFrom (jumpBad l) l.length 0).isSome = (begins l).any (jbR l) := by
      apply bool_of_iff
      rw [firstFrom_some, any_iff]
      constructor
      ·
       rintro ⟨j, _, hj, hb⟩
       have hm : j ∈ begins l := by simp only [jumpBad, Bool.and_eq_true, decide_eq_true_eq] at hb; exact hb.1.1
       exact ⟨j, hm, by rw [← jump_same l j hm]; exact hb⟩
      ·
       rintro ⟨q, hm, hb⟩
       have := begins_lt l q hm
       exact ⟨q, by omega, by omega, by rw [jump_same l q hm]; exact hb⟩
     cases hj : firstFrom (jumpBad l) l.length 0 with
     | some i =>
      rw [hj] at e1
      rw [if_pos (show (begins l).any (jbR l) = true from e1.symm)]
      rfl
     | none =>
      rw [hj] at e1
      have e1' : (begins l).any (jbR l) = false := e1.symm
      rw [e1', if_neg (by decide)]
      have hnj : ∀ q, q ∈ begins l → jbR l q = false := by
       intro q hq
       cases h : jbR l q with
       | false => rfl
       | true => rw [(any_iff (begins l) (jbR l)).2 ⟨q, hq, h⟩] at e1'; cases e1'
      simp only [orElse43]
      have e2 : (firstFrom (crossBad l (parts l)) l.length 0).isSome = (begins l).any (cbR l (parts l)) := by
       apply bool_of_iff
       rw [firstFrom_some, any_iff]
       constructor
       ·
        rintro ⟨j, _, hj, hb⟩
        have hm : j ∈ begins l := by simp only [crossBad, Bool.and_eq_true, decide_eq_true_eq] at hb; exact hb.1.1.1
        exact ⟨j, hm, by rw [← cross_same l hP h0 j hm (hnj j hm)]; exact hb⟩
       ·
        rintro ⟨q, hm, hb⟩
        have := begins_lt l q hm
        exact ⟨q, by omega, by omega, by rw [cross_same l hP h0 q hm (hnj q hm)]; exact hb⟩
      cases hx : firstFrom (crossBad l (parts l)) l.length 0 with
      | some i =>
       rw [hx] at e2
       rw [if_pos (show (begins l).any (cbR l (parts l)) = true from e2.symm)]
      | none =>
       rw [hx] at e2
       rw [show (begins l).any (cbR l (parts l)) = false from e2.symm, if_neg (by decide)]
       have hin : ∀ x ∈ parts l, x.toNat ∈ begins l := by
        intro x hx
        rcases (parts_mem l h0 x).1 hx with rfl | ⟨q, hq, hc, rfl⟩
        ·
         exact hb0
        ·
         have h2 : (tgt l q).2 = true := by simp only [callsAt, Bool.and_eq_true] at hc; exact hc.1.2
         have h2' : (toR (rd_T43 l (q : Int)) q).2 = true := by
          rw [toR_tgt] at h2
          split at h2
          ·
           exact h2
          ·
           cases h2
         exact (tgt_of l q (hnj q hq) h2').2.2
       have e3 : (firstEnd l (parts l) (parts l).length 0).isSome = anyFrom (ebR l (parts l)) (begins l).length 0 := by
        apply bool_of_iff
        rw [firstEnd_some, anyFrom_some]
        have := ends_same l (by omega) (parts l) hpa h00 hb0 hin
        constructor
        ·
         rintro ⟨j, _, hj, hb⟩
         obtain ⟨p, hp, hb'⟩ := this.1 ⟨j, by omega, hb⟩
         exact ⟨p, by omega, by omega, hb'⟩
        ·
         rintro ⟨p, _, hp, hb⟩
         obtain ⟨j, hj, hb'⟩ := this.2 ⟨p, by omega, hb⟩
         exact ⟨j, by omega, by omega, hb'⟩
       simp only [orElse44]
       cases hE : firstEnd l (parts l) (parts l).length 0 with
       | some i => rw [hE] at e3; rw [if_pos (show anyFrom (ebR l (parts l)) (begins l).length 0 = true from e3.symm)]
       | none => rw [hE] at e3; rw [show anyFrom (ebR l (parts l)) (begins l).length 0 = false from e3.symm, if_neg (by decide)]
   rw [herr]
   refine Evt.congr (g' := fun k => posternref04_Check.j0 k l false) ?_ (fun k => by rw [if_neg (by omega), show decide ((l.length : Int) > 256) = false from by simp; omega])
   apply Evt.step2
   ·
    intro k
    simp only [posternref04_Check.j0, Bool.false_eq_true, if_false]
    rfl
   ·
    exact hq
end Go.Proofs.Ytmijlibnembkaaa.Pure
