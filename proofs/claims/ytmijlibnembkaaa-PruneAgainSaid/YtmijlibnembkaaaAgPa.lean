/- What prune.Prune answers, told exactly; and that with all notes seen nothing is dropped. -/
import Derived.Test.YtmijlibnembkaaaAgPn
namespace Go.Proofs.Ytmijlibnembkaaa.Pure
open Go.RowKit Go.Proofs.Ytmijlibnembkaaa.PA Go.Proofs.YtmijlibnembkaaaW.PrintWords Go.Proofs.YtmijlibnembkaaaW.PrintLast Go.Proofs.YtmijlibnembkaaaX
set_option linter.unusedVariables false
set_option linter.unusedSimpArgs false

/-! ### the answer -/
def mres (l : List I) (ns : List Nt) : Res := mrun l ns l.length 0 0 (List.replicate l.length false) (List.replicate l.length false) (List.replicate (l.length + 1) 0)
def pout (l : List I) (ns : List Nt) : List I × List Nt := prun l ns (mres l ns).1 (mres l ns).2.1 (mres l ns).2.2.1 l.length 0 [] []
def pruneR (l : List I) (ns : List Nt) : List I × List Nt × Int :=
  if (checkR l).2 = 0 then
    (if ns.length = l.length ∧ seen ns 0 = true then
      (if (mres l ns).2.2.2.2 = true then (if (checkR (pout l ns).1).2 = 0 then ((pout l ns).1, (pout l ns).2, 0) else ([], [], 2)) else ([], [], 2))
     else ([], [], 2))
  else ([], [], (checkR l).2)

theorem mrun_len (l : List I) (ns : List Nt) : ∀ (f p : Nat) (n : Int) (K A : List Bool) (T : List Int),
    (mrun l ns f p n K A T).1.length = K.length ∧ (mrun l ns f p n K A T).2.1.length = A.length ∧ (mrun l ns f p n K A T).2.2.1.length = T.length ∧ (mrun l ns f p n K A T).2.2.2.1 = [0] := by
  intro f
  induction f with
  | zero => intro p n K A T; simp [mrun]
  | succ f ih =>
    intro p n K A T
    simp only [mrun]
    split
    · split
      · simp
      · rename_i kp a hv
        have h := ih (p + 1) (if kp = true then n + wd (rd_T43 l p) else n) (K.set p kp) (putA A p a) (T.set p n)
        rw [List.length_set, putA_length, List.length_set] at h
        exact h
    · have h := ih (p + 1) n K A (T.set p n)
      rw [List.length_set] at h
      exact h
theorem rdOf_set_ne (K : List Bool) (p q : Nat) (b : Bool) (h : q ≠ p) : rdOf false (K.set p b) (q : Int) = rdOf false K (q : Int) := by
  simp only [rdOf, Int.toNat_natCast, List.getD, List.getElem?_set]
  rw [if_neg (fun e => h e.symm)]
theorem mrun_kept (l : List I) (ns : List Nt) : ∀ (f p : Nat) (n : Int) (K A : List Bool) (T : List Int), (∀ q : Nat, rdOf false K (q : Int) = true → q ∈ begins l) → ∀ q : Nat, rdOf false (mrun l ns f p n K A T).1 (q : Int) = true → q ∈ begins l := by
  intro f
  induction f with
  | zero => intro p n K A T h q; exact h q
  | succ f ih =>
    intro p n K A T h q
    simp only [mrun]
    by_cases hs : (decide (p ∈ begins l) && seen ns p) = true
    · rw [if_pos hs]
      have hb : p ∈ begins l := by simp only [Bool.and_eq_true, decide_eq_true_eq] at hs; exact hs.1
      have hset : ∀ b, ∀ q : Nat, rdOf false (K.set p b) (q : Int) = true → q ∈ begins l := by
        intro b q hq
        by_cases e : q = p
        · rw [e]; exact hb
        · rw [rdOf_set_ne K p q b e] at hq; exact h q hq
      split
      · exact hset true q
      · exact ih _ _ _ _ _ (hset _) q
    · rw [if_neg hs]
      exact ih _ _ _ _ _ h q

theorem i16_range (b : Int) : -32768 ≤ IntKind.i16.wrap b ∧ IntKind.i16.wrap b < 32768 := by simp [IntKind.wrap, IntKind.bits, IntKind.signed]; omega
theorem i32_range (n : Int) : -2147483648 ≤ wrap32 n ∧ wrap32 n < 2147483648 := by unfold wrap32; omega
theorem okI_zero : okI z43 := by unfold okI z43; decide
theorem okI_at (l : List I) (hok : ∀ x ∈ l, okI x) (i : Int) : okI (rd_T43 l i) := by
  unfold rd_T43
  by_cases h : i.toNat < l.length
  · have : l.getD i.toNat z43 = l[i.toNat] := by simp [h]
    rw [this]; exact hok _ (List.getElem_mem h)
  · have : l.getD i.toNat z43 = z43 := by simp [List.getD, List.getElem?_eq_none (show l.length ≤ i.toNat by omega)]
    rw [this]; exact okI_zero
theorem fixC_ok (x : I) (hx : okI x) (j a : Bool) (b : Int) : okI (fixC x j a b) := by
  have h1 := i16_range b
  have h2 := i32_range b
  obtain ⟨a0, a1, a2, a3, a4⟩ := hx
  unfold fixC
  split
  · split
    · exact ⟨a0, a1, a2, a3, h2⟩
    · split
      · exact ⟨by simp, by simp, by simp, h1, by simp⟩
      · exact ⟨a0, a1, a2, h1, a4⟩
  · exact ⟨a0, a1, a2, a3, a4⟩
theorem prun_ok (l : List I) (hok : ∀ x ∈ l, okI x) (ns : List Nt) (K A : List Bool) (T : List Int) : ∀ (f p : Nat) (o : List I) (q : List Nt), (∀ x ∈ o, okI x) → o.length = q.length →
    (∀ x ∈ (prun l ns K A T f p o q).1, okI x) ∧ (prun l ns K A T f p o q).1.length = (prun l ns K A T f p o q).2.length ∧ (prun l ns K A T f p o q).1.length ≤ o.length + 2 * f := by
  intro f
  induction f with
  | zero => intro p o q ho hq; exact ⟨ho, hq, by simp [prun]⟩
  | succ f ih =>
    intro p o q ho hq
    have hx : okI (fixI l A T p) := fixC_ok _ (okI_at l hok _) _ _ _
    simp only [prun]
    split
    · split
      · obtain ⟨h1, h2, h3⟩ := ih (p + 1) (o ++ [fixI l A T p] ++ [rd_T43 l ((p + 1 : Nat) : Int)]) (q ++ [rd_T34 ns p] ++ [rd_T34 ns ((p + 1 : Nat) : Int)]) (by
          intro x h
          simp only [List.mem_append, List.mem_singleton] at h
          rcases h with (h | rfl) | rfl
          · exact ho x h
          · exact hx
          · exact okI_at l hok _) (by simp only [List.length_append, List.length_singleton]; omega)
        refine ⟨h1, h2, ?_⟩
        simp only [List.length_append, List.length_singleton] at h3
        omega
      · obtain ⟨h1, h2, h3⟩ := ih (p + 1) (o ++ [fixI l A T p]) (q ++ [rd_T34 ns p]) (by
          intro x h
          simp only [List.mem_append, List.mem_singleton] at h
          rcases h with h | rfl
          · exact ho x h
          · exact hx) (by simp only [List.length_append, List.length_singleton]; omega)
        refine ⟨h1, h2, ?_⟩
        simp only [List.length_append, List.length_singleton] at h3
        omega
    · obtain ⟨h1, h2, h3⟩ := ih (p + 1) o q ho hq
      exact ⟨h1, h2, by omega⟩

/-- Where each instruction's slots lie. -/
theorem wide_next (l : List I) (hF : Formed l) : ∀ p, p < l.length → p ∈ begins l → (rd_T43 l p).f0 = 24 → p + 1 < l.length := by
  have h := walk_back l hF.plain (fun p => ∀ i, p ≤ i → i < l.length → i ∈ begins l → (rd_T43 l i).f0 = 24 → i + 1 < l.length) (fun i h1 h2 => by omega) (fun p hp hb he hfb => ?_)
  · intro i hi; exact h i (by omega) hi
  · refine ⟨fun h1 hn i hi hl hb2 h24 => ?_, fun h2 hp1 hnb hn i hi hl hb2 h24 => ?_⟩
    · by_cases e : i = p
      · subst e; exact absurd h24 (narrow_here l i hp he h1)
      · exact hn i (by omega) hl hb2 h24
    · by_cases e : i = p
      · subst e; exact hp1
      · by_cases e1 : i = p + 1
        · subst e1; exact absurd hb2 hnb
        · exact hn i (by omega) hl hb2 h24

theorem rdOf_rep (n : Nat) (q : Int) : rdOf false (List.replicate n false) q = false := by
  simp only [rdOf, List.getD, List.getElem?_replicate]
  split <;> rfl
theorem made_eq (l : List I) (hP : Prog l) (ns : List Nt) (hns : ns.length = l.length) : Evt (fun k => prune_made.f k l ns) (mres l ns) := by
  have hsm := hP.small
  have ew : wrap64 ((l.length : Int) + 1) = ((l.length + 1 : Nat) : Int) := by unfold wrap64; omega
  unfold prune_made.f
  refine Evt.congr (g' := fun k => (shape_Starts.f k l).bind fun t202 => prune_made.l0 k l ns [0] 0 (List.replicate l.length false) (List.replicate l.length false) (List.replicate (l.length + 1) 0) t202 (t202.length : Int) 0) ?_ (fun k => ?_)
  · refine Evt.bind (Evt.of _ fun k hk => Starts_eq l (by omega) hP.ok k hk) ?_
    exact made_loop l hP ns hns l.length 0 0 _ _ _ (by omega) (by simp) (by simp) (by simp) (by omega) (by omega)
  · rw [ew, Int.toNat_natCast, Int.toNat_natCast]
    rw [if_pos (by omega), if_pos (by omega), if_pos (by omega), if_pos (by omega), if_pos (by decide)]
    rfl

theorem pout_prog (l : List I) (hP : Prog l) (hF : Formed l) (ns : List Nt) : Prog (pout l ns).1 ∧ (pout l ns).1.length = (pout l ns).2.length := by
  obtain ⟨h1, h2, h3⟩ := prun_ok l hP.ok ns (mres l ns).1 (mres l ns).2.1 (mres l ns).2.2.1 l.length 0 [] [] (fun x h => by cases h) rfl
  have := hF.most
  exact ⟨⟨by unfold pout; simp only [List.length_nil] at h3; omega, h1⟩, h2⟩

theorem Prune_eq (l : List I) (hok : ∀ x ∈ l, okI x) (ns : List Nt) : Evt (fun k => prune_Prune.f k l ns) (pruneR l ns) := by
  unfold prune_Prune.f
  by_cases hb : l.length = 0 ∨ 256 < l.length
  · have hc : checkR l = (0, 40) := by unfold checkR; rw [if_pos hb]
    unfold pruneR
    rw [hc]
    refine Evt.bind (Check_big2 l hb) ?_
    exact Evt.congr (Evt.const _) (fun k => by rw [if_neg (by decide), if_neg (by decide)])
  · have hP : Prog l := ⟨by omega, hok⟩
    refine Evt.bind (Check_eq l hP) ?_
    unfold pruneR
    by_cases he : (checkR l).2 = 0
    · have hF := formed_of l he
      simp only [he, if_true]
      have hj : ∀ b R, Evt (fun k => if b = true then some (([] : List I), ([] : List Nt), (2 : Int)) else ((prune_made.f k l ns).bind fun bt227 => (if bt227.2.2.2.2 = true then (prune_Prune.l0 k l ns bt227.2.2.2.1 [] [] bt227.1 (bt227.1.length : Int) 0 bt227.2.1 bt227.2.2.1) else (some (([] : List I), ([] : List Nt), 2))))) R → Evt (fun k => prune_Prune.j0 k l ns b) R := by
        intro b R h
        refine Evt.step2 (fun k => ?_) h
        simp only [prune_Prune.j0]
      by_cases hns : ns.length = l.length
      · have hns' : (ns.length : Int) = (l.length : Int) := by omega
        have hpos : 0 < (ns.length : Int) := by have := hF.pos; omega
        simp only [hns', if_true]
        rw [hns'] at hpos
        simp only [hpos, if_true]
        refine hj _ _ ?_
        cases hs : seen ns 0
        · have hs' : (rd_T34 ns 0).f0 = false := hs
          rw [if_neg (by simp)]
          exact Evt.congr (Evt.const _) (fun k => by rw [hs', if_pos (by rfl)])
        · have hs' : (rd_T34 ns 0).f0 = true := hs
          rw [if_pos ⟨hns, rfl⟩]
          simp only [hs', Bool.not_true, Bool.false_eq_true, if_false]
          refine Evt.bind (made_eq l hP ns hns) ?_
          obtain ⟨n1, n2, n3, n4⟩ := mrun_len l ns l.length 0 0 (List.replicate l.length false) (List.replicate l.length false) (List.replicate (l.length + 1) 0)
          have n1' : (mres l ns).1.length = l.length := by rw [List.length_replicate] at n1; exact n1
          have n2' : (mres l ns).2.1.length = l.length := by rw [List.length_replicate] at n2; exact n2
          have n3' : (mres l ns).2.2.1.length = l.length + 1 := by rw [List.length_replicate] at n3; exact n3
          have n4' : (mres l ns).2.2.2.1 = [0] := n4
          cases hm : (mres l ns).2.2.2.2
          · simp only [Bool.false_eq_true, if_false]
            exact Evt.const _
          · simp only [if_true, n4']
            have hO := (pout_prog l hP hF ns).1
            refine prune_loop l hP ns hns (mres l ns).1 (mres l ns).2.1 (mres l ns).2.2.1 n1' n2' n3' (fun p hp h => mrun_kept l ns _ _ _ _ _ _ (fun q hq => by rw [rdOf_rep] at hq; cases hq) p h) (wide_next l hF) _ l.length 0 [] [] (by omega) (by simp) (by simp) ?_
            refine Evt.bind (Check_eq _ hO) ?_
            show Evt (fun k => if (checkR (pout l ns).1).2 = 0 then some ((pout l ns).1, (pout l ns).2, 0) else some ([], [], 2)) _
            by_cases h2 : (checkR (pout l ns).1).2 = 0
            · simp only [h2, if_true]
              exact Evt.const _
            · simp only [h2, if_false]
              exact Evt.const _
      · have hns' : ¬ (ns.length : Int) = (l.length : Int) := by omega
        simp only [hns', if_false]
        refine hj _ _ ?_
        rw [if_neg (fun h => hns h.1)]
        exact Evt.const _
    · simp only [he, if_false]
      exact Evt.const _
end Go.Proofs.Ytmijlibnembkaaa.Pure
