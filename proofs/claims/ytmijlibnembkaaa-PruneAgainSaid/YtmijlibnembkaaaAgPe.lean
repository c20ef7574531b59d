/- The law PruneAgain in plain words. -/
import Derived.Test.YtmijlibnembkaaaAgPd
import Derived.Test.YtmijlibnembkaaaAgPAx21
namespace Go.Proofs.Ytmijlibnembkaaa.Pure
open Go.RowKit Go.Proofs.Ytmijlibnembkaaa.PA Go.Proofs.YtmijlibnembkaaaW.PrintWords Go.Proofs.YtmijlibnembkaaaW.PrintLast Go.Proofs.YtmijlibnembkaaaX
set_option linter.unusedVariables false
set_option linter.unusedSimpArgs false

theorem first18 : posternlaw18_first.f 80 = some true := by decide +kernel

theorem SameInsts_self (l : List I) (hl : l.length < 1000000) : Evt (fun k => posternref18_SameInsts.f k l l) true := by
  have loop : ∀ (f p : Nat), p + f = l.length → Evt (fun k => posternref18_SameInsts.l0 k l l (l.length : Int) (p : Int)) true := by
    intro f
    induction f with
    | zero =>
      intro p hp
      refine Evt.step2 (g' := fun _ => some true) (fun k => ?_) (Evt.const _)
      simp only [posternref18_SameInsts.l0]
      rw [if_neg (by omega)]
    | succ f ih =>
      intro p hp
      have ew : wrap64 ((p : Int) + 1) = ((p + 1 : Nat) : Int) := by unfold wrap64; omega
      refine Evt.step2 (g' := fun k => posternref18_SameInsts.l0 k l l (l.length : Int) ((p + 1 : Nat) : Int)) (fun k => ?_) (ih (p + 1) (by omega))
      simp only [posternref18_SameInsts.l0, ew]
      rw [if_pos (by omega), if_pos (by omega), if_pos (by omega), if_pos (by omega), if_neg (by simp)]
  unfold posternref18_SameInsts.f
  refine Evt.congr (loop l.length 0 (by omega)) (fun k => ?_)
  rw [if_pos rfl]
  rfl

theorem seen_set_ne (ns : List Nt) (p q : Nat) (x : Nt) (h : q ≠ p) : seen (ns.set p x) (q : Int) = seen ns (q : Int) := by
  simp only [seen, rd_T34, Int.toNat_natCast, List.getD, List.getElem?_set]
  rw [if_neg (fun e => h e.symm)]
theorem seen_set_eq (ns : List Nt) (p : Nat) (x : Nt) (h : p < ns.length) : seen (ns.set p x) (p : Int) = x.f0 := by
  simp [seen, rd_T34, h]
/-- Notes that are seen up to a slot, and one further. -/
theorem seen_next (ns : List Nt) (p : Nat) (x : Nt) (hx : x.f0 = true) (hp : p < ns.length) (h : ∀ q : Nat, q < p → seen ns (q : Int) = true) : ∀ q : Nat, q < p + 1 → seen (ns.set p x) (q : Int) = true := by
  intro q hq
  by_cases e : q = p
  · rw [e, seen_set_eq ns p x hp, hx]
  · rw [seen_set_ne ns p q x e]; exact h q (by omega)

theorem again_l1 (l out : List I) (hl : l.length < 1000000) (ho : out.length < 1000000) (hok : ∀ x ∈ out, okI x) (hc : (checkR out).2 = 0) (N : Nat) (hN : N = out.length) :
    ∀ (f p : Nat) (ns : List Nt), p + f = N → ns.length = N → (∀ q : Nat, q < p → seen ns (q : Int) = true) →
    Evt (fun k => posternlaw18_PruneAgain.l1 k l out ns l 0 (N : Int) (p : Int)) true := by
  intro f
  induction f with
  | zero =>
    intro p ns hp hn hs
    have hall := prune_all out hok hc ns (by omega) (fun i hi => hs i (by omega))
    have he := Prune_eq out hok ns
    rw [hall] at he
    refine Evt.step2 (g' := fun k => (prune_Prune.f k out ns).bind fun bt478 => (if (0 : Int) = 0 then (if bt478.2.2 = 0 then ((posternref18_SameInsts.f k l l).bind fun t485 => (if t485 = true then ((posternref18_SameInsts.f k bt478.1 out).bind fun t486 => (if t486 = true then (some ((bt478.2.1.length : Int) == (ns.length : Int))) else (some false))) else (some false))) else (some false)) else (some false))) (fun k => ?_) (Evt.bind he ?_)
    · simp only [posternlaw18_PruneAgain.l1]
      rw [if_neg (by omega)]
    · simp only [if_true]
      refine Evt.bind (SameInsts_self l hl) ?_
      simp only [if_true]
      refine Evt.bind (SameInsts_self out ho) ?_
      simp only [if_true, beq_self_eq_true]
      exact Evt.const _
  | succ f ih =>
    intro p ns hp hn hs
    have ew : wrap64 ((p : Int) + 1) = ((p + 1 : Nat) : Int) := by unfold wrap64; omega
    refine Evt.step2 (g' := fun k => posternlaw18_PruneAgain.l1 k l out (ns.set p ⟨true, (rd_T34 ns p).f1, (rd_T34 ns p).f2⟩) l 0 (N : Int) ((p + 1 : Nat) : Int)) (fun k => ?_) (ih (p + 1) _ (by omega) (by rw [List.length_set]; exact hn) (seen_next ns p _ rfl (by omega) hs))
    simp only [posternlaw18_PruneAgain.l1, ew, Int.toNat_natCast]
    rw [if_pos (by omega), if_pos (by omega), if_pos (by omega)]

theorem again_l0 (l out : List I) (kept : List Nt) (hl : l.length < 1000000) (hok : ∀ x ∈ l, okI x) (hc : (checkR l).2 = 0) (ho : out.length < 1000000) (hoo : ∀ x ∈ out, okI x) (hco : (checkR out).2 = 0) (hk : kept.length = out.length) :
    ∀ (f p : Nat) (ns : List Nt), p + f = l.length → ns.length = l.length → (∀ q : Nat, q < p → seen ns (q : Int) = true) →
    Evt (fun k => posternlaw18_PruneAgain.l0 k l out kept ns (l.length : Int) (p : Int)) true := by
  intro f
  induction f with
  | zero =>
    intro p ns hp hn hs
    have hall := prune_all l hok hc ns (by omega) (fun i hi => hs i (by omega))
    have he := Prune_eq l hok ns
    rw [hall] at he
    refine Evt.step2 (g' := fun k => (prune_Prune.f k l ns).bind fun bt470 => (posternlaw18_PruneAgain.l1 k l out kept bt470.1 bt470.2.2 (kept.length : Int) 0)) (fun k => ?_) (Evt.bind he ?_)
    · simp only [posternlaw18_PruneAgain.l0]
      rw [if_neg (by omega)]
    · exact again_l1 l out hl ho hoo hco kept.length hk kept.length 0 kept (by omega) rfl (fun q hq => by omega)
  | succ f ih =>
    intro p ns hp hn hs
    have ew : wrap64 ((p : Int) + 1) = ((p + 1 : Nat) : Int) := by unfold wrap64; omega
    refine Evt.step2 (g' := fun k => posternlaw18_PruneAgain.l0 k l out kept (ns.set p ⟨true, (rd_T34 ns p).f1, (rd_T34 ns p).f2⟩) (l.length : Int) ((p + 1 : Nat) : Int)) (fun k => ?_) (ih (p + 1) _ (by omega) (by rw [List.length_set]; exact hn) (seen_next ns p _ rfl (by omega) hs))
    simp only [posternlaw18_PruneAgain.l0, ew, Int.toNat_natCast]
    rw [if_pos (by omega), if_pos (by omega), if_pos (by omega)]

/-- The answers: an error and nothing else, or a list that is in order with as many notes. -/
theorem pruneR_cases (l : List I) (hok : ∀ x ∈ l, okI x) (ns : List Nt) :
    (∃ e : Int, e ≠ 0 ∧ pruneR l ns = ([], [], e)) ∨
    (∃ out kept, pruneR l ns = (out, kept, 0) ∧ l.length < 1000000 ∧ (checkR l).2 = 0 ∧ out.length < 1000000 ∧ (∀ x ∈ out, okI x) ∧ (checkR out).2 = 0 ∧ kept.length = out.length) := by
  unfold pruneR
  by_cases h1 : (checkR l).2 = 0
  · rw [if_pos h1]
    by_cases h2 : ns.length = l.length ∧ seen ns 0 = true
    · rw [if_pos h2]
      by_cases h3 : (mres l ns).2.2.2.2 = true
      · rw [if_pos h3]
        by_cases h4 : (checkR (pout l ns).1).2 = 0
        · rw [if_pos h4]
          have hF := formed_of l h1
          have hP : Prog l := ⟨by have := hF.most; omega, hok⟩
          obtain ⟨hO, hlen⟩ := pout_prog l hP hF ns
          exact .inr ⟨_, _, rfl, hP.small, h1, hO.small, hO.ok, h4, hlen.symm⟩
        · rw [if_neg h4]; exact .inl ⟨2, by decide, rfl⟩
      · rw [if_neg h3]; exact .inl ⟨2, by decide, rfl⟩
    · rw [if_neg h2]; exact .inl ⟨2, by decide, rfl⟩
  · rw [if_neg h1]; exact .inl ⟨_, h1, rfl⟩

theorem PruneAgain (l : List I) (hok : ∀ x ∈ l, okI x) (hl : l.length * 12 ≤ 140737488351232) (ns : List Nt) : ∃ k, posternlaw18_PruneAgain.f k l ns = some true := by
  have hfirst : Evt (fun k => posternlaw18_first.f k) true := ⟨80, fun k hk => up (fun k => posternlaw18_first.mono k) first18 k hk⟩
  have main : Evt (fun k => posternlaw18_PruneAgain.f k l ns) true := by
    unfold posternlaw18_PruneAgain.f
    refine Evt.bind hfirst ?_
    simp only [if_true]
    refine Evt.bind (Prune_eq l hok ns) ?_
    rcases pruneR_cases l hok ns with ⟨e, he, hr⟩ | ⟨out, kept, hr, h1, h2, h3, h4, h5, h6⟩
    · rw [hr]
      exact Evt.congr (Evt.const _) (fun k => by rw [if_neg he]; simp [wrap64])
    · rw [hr]
      refine Evt.congr (again_l0 l out kept h1 hok h2 h3 h4 h5 h6 l.length 0 (List.replicate l.length z34) (by omega) (by simp) (fun q hq => by omega)) (fun k => ?_)
      rw [if_pos rfl, if_pos (by omega), if_pos (by omega), Int.toNat_natCast]
      simp only [Option.bind_some, List.length_replicate]
      rfl
  obtain ⟨k, hk⟩ := main
  exact ⟨k, hk k (Nat.le_refl _)⟩
/-- As the row hands it in. -/
theorem PruneAgainRow (l : List I) (hok : ∀ x ∈ l, okI x) (hl : l.length * 12 ≤ 140737488351232) (ns : List Nt) {Q : Nt → Prop} {B : Nat} (_ : ∀ x ∈ ns, Q x) (_ : ns.length * B ≤ 140737488351232) : ∃ k, posternlaw18_PruneAgain.f k l ns = some true := PruneAgain l hok hl ns
end Go.Proofs.Ytmijlibnembkaaa.Pure
