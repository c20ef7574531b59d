/- Plain facts on the document's answer for layer 4: Parts are the program's parts, Check's error is the program's. -/
import Derived.Test.YtmijlibnembkaaaMkQb
namespace Go.Proofs.Ytmijlibnembkaaa.Pure
open Go.RowKit Go.Proofs.Ytmijlibnembkaaa.PA Go.Proofs.YtmijlibnembkaaaW.PrintWords Go.Proofs.YtmijlibnembkaaaW.PrintLast Go.Proofs.YtmijlibnembkaaaX
set_option linter.unusedVariables false
set_option linter.unusedSimpArgs false

/-! ### where instructions begin: rising, below the length -/
theorem begFrom_lt (n : Nat) : ∀ (s : List I) (p : Nat), ∀ q ∈ begFrom n s p, q < p + s.length := by
 induction n with
 | zero => intro s p q hq; cases hq
 | succ n ih =>
  intro s p q hq
  unfold begFrom at hq
  split at hq
  ·
   rename_i he
   have hw := plainS_width s he
   rcases List.mem_cons.1 hq with rfl | hq
   ·
    omega
   ·
    have := ih _ _ q hq
    rw [List.length_drop] at this
    omega
  ·
   cases hq
theorem begFrom_rising (n : Nat) : ∀ (s : List I) (p : Nat), (begFrom n s p).Pairwise (· < ·) := by
 induction n with
 | zero => intro s p; exact List.Pairwise.nil
 | succ n ih =>
  intro s p
  unfold begFrom
  split
  ·
   rename_i he
   have hw := plainS_width s he
   refine List.Pairwise.cons (fun q hq => ?_) (ih _ _)
   have := begFrom_ge _ _ _ q hq
   omega
  ·
   exact List.Pairwise.nil
theorem begFrom_length (n : Nat) : ∀ (s : List I) (p : Nat), (begFrom n s p).length ≤ n := by
 induction n with
 | zero => intro s p; exact Nat.le_refl _
 | succ n ih =>
  intro s p
  unfold begFrom
  split
  ·
   have := ih (s.drop (plainS s).1.toNat) (p + (plainS s).1.toNat)
   simp only [List.length_cons]; omega
  ·
   simp
theorem begins_lt (l : List I) (q : Nat) (hq : q ∈ begins l) : q < l.length := by
 have := begFrom_lt _ _ _ q hq; omega
theorem begins_rising (l : List I) : (begins l).Pairwise (· < ·) := begFrom_rising _ _ _
theorem begins_length (l : List I) : (begins l).length ≤ l.length := begFrom_length _ _ _
def bg (l : List I) (p : Nat) : Nat := (begins l).getD p 0
theorem begI_length (l : List I) : (begI l).length = (begins l).length := by simp [begI, ints]
theorem rd_beg (l : List I) (p : Nat) (h : p < (begins l).length) : rd (begI l) (p : Int) = ((bg l p : Nat) : Int) := by
 simp [rd, begI, ints, bg, h]
theorem bg_get (l : List I) (p : Nat) (h : p < (begins l).length) : bg l p = (begins l)[p] := by simp [bg, h]
theorem bg_mem (l : List I) (p : Nat) (h : p < (begins l).length) : bg l p ∈ begins l := by rw [bg_get l p h]; exact List.getElem_mem h
theorem bg_drop (l : List I) (p : Nat) (h : p < (begins l).length) : (begins l).drop p = bg l p :: (begins l).drop (p + 1) := by
 rw [List.drop_eq_getElem_cons h, bg_get l p h]
theorem bg_mono (l : List I) (p q : Nat) (hq : q < (begins l).length) (h : p < q) : bg l p < bg l q := by
 rw [bg_get l p (by omega), bg_get l q hq]
 exact List.pairwise_iff_getElem.1 (begins_rising l) p q (by omega) hq h

/-! ### rising lists -/
theorem rising_ext : ∀ (a b : List Int), a.Pairwise (· < ·) → b.Pairwise (· < ·) → (∀ x, x ∈ a ↔ x ∈ b) → a = b
 | [], [], _, _, _ => rfl
 | [], y :: b, _, _, h => absurd ((h y).2 List.mem_cons_self) (by simp)
 | x :: a, [], _, _, h => absurd ((h x).1 List.mem_cons_self) (by simp)
 | x :: a, y :: b, ha, hb, h => by
  have ha' := List.pairwise_cons.1 ha
  have hb' := List.pairwise_cons.1 hb
  have hx : x = y := by
   rcases List.mem_cons.1 ((h x).1 List.mem_cons_self) with e | h1
   ·
    exact e
   ·
    rcases List.mem_cons.1 ((h y).2 List.mem_cons_self) with e | h2
    ·
     exact e.symm
    ·
     have := hb'.1 x h1
     have := ha'.1 y h2
     omega
  subst hx
  have : a = b := by
   refine rising_ext a b ha'.2 hb'.2 (fun z => ⟨fun hz => ?_, fun hz => ?_⟩)
   ·
    have := ha'.1 z hz
    rcases List.mem_cons.1 ((h z).1 (List.mem_cons_of_mem _ hz)) with e | h'
    ·
     omega
    ·
     exact h'
   ·
    have := hb'.1 z hz
    rcases List.mem_cons.1 ((h z).2 (List.mem_cons_of_mem _ hz)) with e | h'
    ·
     omega
    ·
     exact h'
  rw [this]

/-! ### Parts -/
def hit (l : List I) (t : Int) (q : Nat) : Bool := (toR (rd_T43 l (q : Int)) q).2 && (decide ((toR (rd_T43 l (q : Int)) q).1 = t) && ((rd_T43 l (q : Int)).f0 == 133))
theorem rparts_in (l : List I) (hP : Prog l) (t : Nat) (acc : List Int) (n : Int) (R : List Int) : ∀ (f p : Nat) (b : Bool), p + f = (begins l).length →
  Evt (fun k => if (b || ((begins l).drop p).any (hit l (t : Int))) = true then (if acc.length < 17592186044416 then posternref04_Parts.l0 k l (acc ++ [(t : Int)]) (begI l) n (wrap64 ((t : Int) + 1)) else none) else posternref04_Parts.l0 k l acc (begI l) n (wrap64 ((t : Int) + 1))) R →
  Evt (fun k => posternref04_Parts.l1 k l acc (begI l) (t : Int) b n (t : Int) (begI l) ((begI l).length : Int) (p : Int)) R := by
 have hbl := begI_length l
 have hbn := begins_length l
 have hsm := hP.small
 intro f
 induction f with
 | zero =>
  intro p b hp h
  rw [List.drop_eq_nil_of_le (by omega), List.any_nil, Bool.or_false] at h
  apply Evt.step2
  ·
   intro k
   simp only [posternref04_Parts.l1]
   rw [if_neg (by omega)]
  ·
   exact h
 | succ f ih =>
  intro p b hp h
  have ew : wrap64 ((p : Int) + 1) = ((p + 1 : Nat) : Int) := by unfold wrap64; omega
  have hpl : p < (begins l).length := by omega
  have hq := begins_lt l _ (bg_mem l p hpl)
  rw [bg_drop l p hpl, List.any_cons] at h
  apply Evt.step2
  ·
   intro k
   simp only [posternref04_Parts.l1]
   rw [if_pos (by omega), if_pos (by omega), if_pos (by omega), rd_beg l p hpl, ew]
  ·
   refine Evt.bind (Evt.of 1 fun k hk => rto l hP (bg l p) hq k hk) ?_
   have hh : hit l (t : Int) (bg l p) = ((toR (rd_T43 l ((bg l p : Nat) : Int)) (bg l p)).2 && (decide ((toR (rd_T43 l ((bg l p : Nat) : Int)) (bg l p)).1 = (t : Int)) && ((rd_T43 l ((bg l p : Nat) : Int)).f0 == 133))) := rfl
   rw [hh] at h
   have hnext := ih (p + 1)
   by_cases hb : b = true
   ·
    subst hb
    refine Evt.congr (hnext true (by omega) ?_) (fun k => by rw [if_pos rfl])
    simpa using h
   ·
    have hb' : b = false := by simpa using hb
    subst hb'
    generalize hv : toR (rd_T43 l ((bg l p : Nat) : Int)) (bg l p) = v at h ⊢
    obtain ⟨v1, v2⟩ := v
    dsimp only at h ⊢
    cases v2 with
    | false =>
     refine Evt.congr (hnext false (by omega) ?_) (fun k => by rw [if_neg (by decide), if_neg (by decide)])
     simpa using h
    | true =>
     by_cases ht : v1 = (t : Int)
     ·
      refine Evt.congr (hnext ((rd_T43 l ((bg l p : Nat) : Int)).f0 == 133) (by omega) ?_) (fun k => by rw [if_neg (by decide), if_pos rfl, if_pos ht, if_pos (by omega), if_pos (by omega)])
      rw [show decide (v1 = (t : Int)) = true from by simpa using ht] at h
      simpa only [Bool.true_and, Bool.false_or] using h
     ·
      refine Evt.congr (hnext false (by omega) ?_) (fun k => by rw [if_neg (by decide), if_pos rfl, if_neg ht])
      rw [show decide (v1 = (t : Int)) = false from by simpa using ht] at h
      simpa only [Bool.true_and, Bool.false_and, Bool.false_or] using h
def isPart (l : List I) (t : Nat) : Bool := ((t : Int) == 0) || (begins l).any (hit l (t : Int))
def partsFrom (l : List I) : Nat → Nat → List Int
 | 0, _ => []
 | n + 1, t => if isPart l t = true then (t : Int) :: partsFrom l n (t + 1) else partsFrom l n (t + 1)
theorem rparts_out (l : List I) (hP : Prog l) : ∀ (n t : Nat) (acc : List Int), t + n = l.length → acc.length ≤ t → Evt (fun k => posternref04_Parts.l0 k l acc (begI l) (l.length : Int) (t : Int)) (acc ++ partsFrom l n t) := by
 have hsm := hP.small
 intro n
 induction n with
 | zero =>
  intro t acc ht ha
  apply Evt.step2
  ·
   intro k
   simp only [posternref04_Parts.l0]
   rw [if_neg (by omega)]
  ·
   simpa [partsFrom] using Evt.const acc
 | succ n ih =>
  intro t acc ht ha
  have ew : wrap64 ((t : Int) + 1) = ((t + 1 : Nat) : Int) := by unfold wrap64; omega
  apply Evt.step2
  ·
   intro k
   simp only [posternref04_Parts.l0]
   rw [if_pos (by omega)]
  ·
   refine rparts_in l hP t acc _ _ (begins l).length 0 _ (by omega) ?_
   rw [List.drop_zero, ew]
   unfold partsFrom
   show Evt (fun k => if isPart l t = true then _ else _) _
   by_cases hb : isPart l t = true
   ·
    rw [if_pos hb]
    have := ih (t + 1) (acc ++ [(t : Int)]) (by omega) (by simp; omega)
    rw [List.append_assoc] at this
    exact Evt.congr this (fun k => by rw [if_pos hb, if_pos (by omega)])
   ·
    rw [if_neg hb]
    exact Evt.congr (ih (t + 1) acc (by omega) (by omega)) (fun k => by rw [if_neg hb])
theorem partsFrom_mem (l : List I) : ∀ (n t : Nat) (x : Int), x ∈ partsFrom l n t ↔ ∃ j : Nat, t ≤ j ∧ j < t + n ∧ x = (j : Int) ∧ isPart l j = true := by
 intro n
 induction n with
 | zero => intro t x; simp only [partsFrom, List.not_mem_nil, false_iff]; rintro ⟨j, h1, h2, _⟩; omega
 | succ n ih =>
  intro t x
  have hi := ih (t + 1) x
  have key : (∃ j : Nat, t ≤ j ∧ j < t + (n + 1) ∧ x = (j : Int) ∧ isPart l j = true) ↔ (x = (t : Int) ∧ isPart l t = true) ∨ (∃ j : Nat, t + 1 ≤ j ∧ j < t + 1 + n ∧ x = (j : Int) ∧ isPart l j = true) := by
   constructor
   ·
    rintro ⟨j, h1, h2, h3, h4⟩
    by_cases e : j = t
    ·
     subst e; exact .inl ⟨h3, h4⟩
    ·
     exact .inr ⟨j, by omega, by omega, h3, h4⟩
   ·
    rintro (⟨h3, h4⟩ | ⟨j, h1, h2, h3, h4⟩)
    ·
     exact ⟨t, by omega, by omega, h3, h4⟩
    ·
     exact ⟨j, by omega, by omega, h3, h4⟩
  rw [key, ← hi, show partsFrom l (n + 1) t = (if isPart l t = true then (t : Int) :: partsFrom l n (t + 1) else partsFrom l n (t + 1)) from rfl]
  by_cases hb : isPart l t = true
  ·
   rw [if_pos hb, List.mem_cons]; simp [hb]
  ·
   rw [if_neg hb]; simp [hb]
theorem partsFrom_rising (l : List I) : ∀ (n t : Nat), (partsFrom l n t).Pairwise (· < ·) := by
 intro n
 induction n with
 | zero => intro t; exact List.Pairwise.nil
 | succ n ih =>
  intro t
  unfold partsFrom
  split
  ·
   refine List.Pairwise.cons (fun x hx => ?_) (ih _)
   obtain ⟨j, h1, _, rfl, _⟩ := (partsFrom_mem l _ _ x).1 hx
   omega
  ·
   exact ih _
theorem callsFrom_mem (l : List I) : ∀ (n i : Nat) (x : Int), x ∈ callsFrom l n i ↔ ∃ j : Nat, i ≤ j ∧ j < i + n ∧ callsAt l j = true ∧ x = (tgt l j).1 := by
 intro n
 induction n with
 | zero => intro t x; simp only [callsFrom, List.not_mem_nil, false_iff]; rintro ⟨j, h1, h2, _⟩; omega
 | succ n ih =>
  intro t x
  have hi := ih (t + 1) x
  have key : (∃ j : Nat, t ≤ j ∧ j < t + (n + 1) ∧ callsAt l j = true ∧ x = (tgt l j).1) ↔ (callsAt l t = true ∧ x = (tgt l t).1) ∨ (∃ j : Nat, t + 1 ≤ j ∧ j < t + 1 + n ∧ callsAt l j = true ∧ x = (tgt l j).1) := by
   constructor
   ·
    rintro ⟨j, h1, h2, h3, h4⟩
    by_cases e : j = t
    ·
     subst e; exact .inl ⟨h3, h4⟩
    ·
     exact .inr ⟨j, by omega, by omega, h3, h4⟩
   ·
    rintro (⟨h3, h4⟩ | ⟨j, h1, h2, h3, h4⟩)
    ·
     exact ⟨t, by omega, by omega, h3, h4⟩
    ·
     exact ⟨j, by omega, by omega, h3, h4⟩
  rw [key, ← hi, show callsFrom l (n + 1) t = (if callsAt l t = true then (tgt l t).1 :: callsFrom l n (t + 1) else callsFrom l n (t + 1)) from rfl]
  by_cases hb : callsAt l t = true
  ·
   rw [if_pos hb, List.mem_cons]; simp [hb]
  ·
   rw [if_neg hb]; simp [hb]
theorem hit_calls (l : List I) (t q : Nat) (ht : t < l.length) (hq : q ∈ begins l) : hit l (t : Int) q = true ↔ (callsAt l q = true ∧ ((t : Nat) : Int) = (tgt l q).1) := by
 unfold hit callsAt
 rw [toR_tgt]
 simp only [Bool.and_eq_true, decide_eq_true_eq, beq_iff_eq]
 constructor
 ·
  rintro ⟨h1, h2, h3⟩
  rw [if_pos ⟨h1, by omega, by omega⟩]
  exact ⟨⟨⟨hq, h1⟩, h3⟩, h2.symm⟩
 ·
  rintro ⟨⟨⟨_, h1⟩, h3⟩, h2⟩
  split at h1
  ·
   rename_i hh
   rw [if_pos hh] at h2
   exact ⟨h1, h2.symm, h3⟩
  ·
   cases h1
theorem parts_mem (l : List I) (h : l.length ≠ 0) (x : Int) : x ∈ parts l ↔ x = 0 ∨ ∃ j : Nat, j ∈ begins l ∧ callsAt l j = true ∧ x = (tgt l j).1 := by
 unfold parts
 rw [if_neg h, dd_mem, isort_mem, List.mem_cons, callsFrom_mem]
 constructor
 ·
  rintro (e | ⟨j, _, _, hc, e⟩)
  ·
   exact .inl e
  ·
   refine .inr ⟨j, ?_, hc, e⟩
   simp only [callsAt, Bool.and_eq_true, decide_eq_true_eq] at hc
   exact hc.1.1
 ·
  rintro (e | ⟨j, hj, hc, e⟩)
  ·
   exact .inl e
  ·
   have := begins_lt l j hj
   exact .inr ⟨j, by omega, by omega, hc, e⟩
theorem parts_same (l : List I) (hP : Prog l) (h : l.length ≠ 0) : partsFrom l l.length 0 = parts l := by
 refine rising_ext _ _ (partsFrom_rising l _ _) (parts_ok l hP h).lt (fun x => ?_)
 rw [partsFrom_mem, parts_mem l h]
 constructor
 ·
  rintro ⟨j, _, hj, rfl, hp⟩
  simp only [isPart, Bool.or_eq_true, beq_iff_eq, List.any_eq_true] at hp
  rcases hp with e | ⟨q, hq, hh⟩
  ·
   exact .inl e
  ·
   have := (hit_calls l j q (by omega) hq).1 hh
   exact .inr ⟨q, hq, this.1, this.2⟩
 ·
  rintro (rfl | ⟨q, hq, hc, e⟩)
  ·
   exact ⟨0, by omega, by omega, rfl, by simp [isPart]⟩
  ·
   have hr := tgt_range l q (by simp only [callsAt, Bool.and_eq_true] at hc; exact hc.1.2)
   have hj : x = ((x.toNat : Nat) : Int) := by omega
   refine ⟨x.toNat, by omega, by omega, hj, ?_⟩
   simp only [isPart, Bool.or_eq_true, beq_iff_eq, List.any_eq_true]
   exact .inr ⟨q, hq, (hit_calls l x.toNat q (by omega) hq).2 ⟨hc, by rw [← hj]; exact e⟩⟩
theorem rparts (l : List I) (hP : Prog l) (h : l.length ≠ 0) : Evt (fun k => posternref04_Parts.f k l) (parts l) := by
 unfold posternref04_Parts.f
 refine Evt.bind (rbegin l hP) ?_
 rw [← parts_same l hP h]
 exact rparts_out l hP l.length 0 [] (by omega) (by simp)

/-! ### Of -/
def ofF (x : Int) (pa : List Int) (best : Int) : Int := pa.foldl (fun b p => if p ≤ x then p else b) best
def ofR (pa : List Int) (x : Int) : Int := ofF x pa 0
theorem rof_loop (pa : List Int) (hpa : pa.length < 1000000) (x : Int) : ∀ (f p : Nat) (best : Int), p + f = pa.length → Evt (fun k => posternref04_Of.l0 k x best pa (pa.length : Int) (p : Int)) (ofF x (pa.drop p) best) := by
 intro f
 induction f with
 | zero =>
  intro p best hp
  apply Evt.step2
  ·
   intro k
   simp only [posternref04_Of.l0]
   rw [if_neg (by omega)]
  ·
   rw [List.drop_eq_nil_of_le (by omega)]
   exact Evt.const best
 | succ f ih =>
  intro p best hp
  have ew : wrap64 ((p : Int) + 1) = ((p + 1 : Nat) : Int) := by unfold wrap64; omega
  have hd : pa.drop p = rd pa (p : Int) :: pa.drop (p + 1) := by
   rw [List.drop_eq_getElem_cons (by omega)]
   simp [rd, show p < pa.length by omega]
  have h1 := ih (p + 1) (rd pa (p : Int)) (by omega)
  have h2 := ih (p + 1) best (by omega)
  rw [hd]
  apply Evt.step2
  ·
   intro k
   simp only [posternref04_Of.l0, ew]
   rw [if_pos (by omega), if_pos (by omega), if_pos (by omega)]
  ·
   by_cases hx : rd pa (p : Int) ≤ x
   ·
    have e : ofF x (rd pa (p : Int) :: pa.drop (p + 1)) best = ofF x (pa.drop (p + 1)) (rd pa (p : Int)) := by simp only [ofF, List.foldl_cons, if_pos hx]
    rw [e]
    exact Evt.congr h1 (fun k => by rw [if_pos hx])
   ·
    have e : ofF x (rd pa (p : Int) :: pa.drop (p + 1)) best = ofF x (pa.drop (p + 1)) best := by simp only [ofF, List.foldl_cons, if_neg hx]
    rw [e]
    exact Evt.congr h2 (fun k => by rw [if_neg hx])
theorem rof (pa : List Int) (hpa : pa.length < 1000000) (x : Int) : Evt (fun k => posternref04_Of.f k pa x) (ofR pa x) := by
 unfold posternref04_Of.f
 exact rof_loop pa hpa x pa.length 0 0 (by omega)
theorem ofF_spec (x : Int) : ∀ (pa : List Int) (best : Int), pa.Pairwise (· < ·) → (ofF x pa best = best ∧ ∀ p ∈ pa, ¬ p ≤ x) ∨ (ofF x pa best ∈ pa ∧ ofF x pa best ≤ x ∧ ∀ p ∈ pa, p ≤ x → p ≤ ofF x pa best) := by
 intro pa
 induction pa with
 | nil => intro best _; exact .inl ⟨rfl, by simp⟩
 | cons p t ih =>
  intro best h
  have h' := List.pairwise_cons.1 h
  by_cases hx : p ≤ x
  ·
   have e : ofF x (p :: t) best = ofF x t p := by simp only [ofF, List.foldl_cons, if_pos hx]
   rw [e]
   rcases ih p h'.2 with ⟨h1, h2⟩ | ⟨h1, h2, h3⟩
   ·
    rw [h1]
    refine .inr ⟨List.mem_cons_self, hx, fun q hq hqx => ?_⟩
    rcases List.mem_cons.1 hq with rfl | hq
    ·
     exact Int.le_refl _
    ·
     exact absurd hqx (h2 q hq)
   ·
    refine .inr ⟨List.mem_cons_of_mem _ h1, h2, fun q hq hqx => ?_⟩
    rcases List.mem_cons.1 hq with rfl | hq
    ·
     have := h'.1 _ h1; omega
    ·
     exact h3 q hq hqx
  ·
   have e : ofF x (p :: t) best = ofF x t best := by simp only [ofF, List.foldl_cons, if_neg hx]
   rw [e]
   rcases ih best h'.2 with ⟨h1, h2⟩ | ⟨h1, h2, h3⟩
   ·
    refine .inl ⟨h1, fun q hq => ?_⟩
    rcases List.mem_cons.1 hq with rfl | hq
    ·
     exact hx
    ·
     exact h2 q hq
   ·
    refine .inr ⟨List.mem_cons_of_mem _ h1, h2, fun q hq hqx => ?_⟩
    rcases List.mem_cons.1 hq with rfl | hq
    ·
     exact absurd hqx hx
    ·
     exact h3 q hq hqx
theorem ofR_spec (pa : List Int) (h : pa.Pairwise (· < ·)) (h0 : (0 : Int) ∈ pa) (x : Int) (hx : 0 ≤ x) : ofR pa x ∈ pa ∧ ofR pa x ≤ x ∧ ∀ p ∈ pa, p ≤ x → p ≤ ofR pa x := by
 rcases ofF_spec x pa 0 h with ⟨_, h2⟩ | h3
 ·
  exact absurd hx (h2 0 h0)
 ·
  exact h3

/-! ### the part's number and its beginning -/
theorem count_more {p q : Int → Bool} (hpq : ∀ a, p a = true → q a = true) : ∀ (l : List Int), l.countP p ≤ l.countP q ∧ (l.countP p = l.countP q → ∀ a ∈ l, q a = true → p a = true) := by
 intro l
 induction l with
 | nil => exact ⟨Nat.le_refl _, fun _ a ha => by cases ha⟩
 | cons x t ih =>
  rw [List.countP_cons, List.countP_cons]
  obtain ⟨h1, h2⟩ := ih
  cases hp : p x with
  | true =>
   rw [hpq x hp]
   refine ⟨by simp only [if_true]; omega, fun he a ha hq => ?_⟩
   simp only [if_true] at he
   rcases List.mem_cons.1 ha with rfl | ha
   ·
    exact hp
   ·
    exact h2 (by omega) a ha hq
  | false =>
   cases hq : q x with
   | true => refine ⟨by simp; omega, fun he => ?_⟩; simp at he; omega
   | false =>
    refine ⟨by simp; omega, fun he a ha hqa => ?_⟩
    simp at he
    rcases List.mem_cons.1 ha with rfl | ha
    ·
     rw [hq] at hqa; cases hqa
    ·
     exact h2 he a ha hqa
theorem count_le_lt (x : Int) : ∀ (pa : List Int), pa.Pairwise (· < ·) → pa.countP (fun p => decide (p ≤ x)) = pa.countP (fun p => decide (p < x)) + (if pa.contains x = true then 1 else 0) := by
 intro pa
 induction pa with
 | nil => intro _; rfl
 | cons p t ih =>
  intro h
  have h' := List.pairwise_cons.1 h
  have hi := ih h'.2
  rw [List.countP_cons, List.countP_cons]
  by_cases e : x = p
  ·
   subst e
   have hz : t.contains x = false := by
    cases hc : t.contains x with
    | false => rfl
    | true => have := h'.1 x (by simpa using hc); omega
   rw [hz] at hi
   simp at hi ⊢
   exact hi
  ·
   have hc : (p :: t).contains x = t.contains x := by simp [e]
   rw [hc, hi]
   by_cases h1 : p < x
   ·
    rw [decide_eq_true (show p ≤ x by omega), decide_eq_true h1]
    simp only [if_true]; omega
   ·
    rw [decide_eq_false (show ¬ p ≤ x by omega), decide_eq_false h1]
    simp only [Bool.false_eq_true, if_false]; omega
theorem partOf_count (pa : List Int) (h : pa.Pairwise (· < ·)) (hs : pa.length < 1000000) (x : Int) : partOf pa x = (pa.countP (fun p => decide (p ≤ x)) : Int) - 1 := by
 have h1 := count_le_lt x pa h
 have h2 : pa.countP (fun p => decide (p < x)) ≤ pa.length := List.countP_le_length
 unfold partOf
 by_cases hc : pa.contains x = true
 ·
  rw [if_pos hc] at h1 ⊢
  omega
 ·
  rw [if_neg hc] at h1 ⊢
  unfold wrap64
  omega
theorem part_iff (pa : List Int) (h : pa.Pairwise (· < ·)) (hs : pa.length < 1000000) (h0 : (0 : Int) ∈ pa) (x y : Int) (hx : 0 ≤ x) (hy : 0 ≤ y) : partOf pa x = partOf pa y ↔ ofR pa x = ofR pa y := by
 rw [partOf_count pa h hs, partOf_count pa h hs]
 obtain ⟨x1, x2, x3⟩ := ofR_spec pa h h0 x hx
 obtain ⟨y1, y2, y3⟩ := ofR_spec pa h h0 y hy
 have half : ∀ u v : Int, u ≤ v → (pa.countP (fun p => decide (p ≤ u)) : Int) - 1 = (pa.countP (fun p => decide (p ≤ v)) : Int) - 1 → ∀ a ∈ pa, a ≤ v → a ≤ u := by
  intro u v huv hc a ha hav
  have := (count_more (p := fun p => decide (p ≤ u)) (q := fun p => decide (p ≤ v)) (fun a ha => by simp at ha ⊢; omega) pa).2 (by omega) a ha (by simpa using hav)
  simpa using this
 constructor
 ·
  intro hc
  rcases Int.le_total x y with hxy | hxy
  ·
   have hb := half x y hxy hc _ y1 y2
   have := x3 _ y1 hb
   have := y3 _ x1 (by omega)
   omega
  ·
   have hb := half y x hxy hc.symm _ x1 x2
   have := y3 _ x1 hb
   have := x3 _ y1 (by omega)
   omega
 ·
  intro ho
  have : pa.countP (fun p => decide (p ≤ x)) = pa.countP (fun p => decide (p ≤ y)) := by
   apply List.countP_congr
   intro a ha
   simp only [decide_eq_true_eq]
   constructor
   ·
    intro h1; have := x3 a ha h1; omega
   ·
    intro h1; have := y3 a ha h1; omega
  rw [this]
end Go.Proofs.Ytmijlibnembkaaa.Pure
