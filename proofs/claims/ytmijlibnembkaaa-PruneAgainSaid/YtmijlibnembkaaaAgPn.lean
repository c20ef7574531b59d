/- Plain facts on the printed prune.Prune: what it answers, whatever the notes. -/
import Derived.Test.YtmijlibnembkaaaAgPm
import Derived.Test.YtmijlibnembkaaaAgPAx12
namespace Go.Proofs.Ytmijlibnembkaaa.Pure
open Go.RowKit Go.Proofs.Ytmijlibnembkaaa.PA Go.Proofs.YtmijlibnembkaaaW.PrintWords Go.Proofs.YtmijlibnembkaaaW.PrintLast Go.Proofs.YtmijlibnembkaaaX
set_option linter.unusedVariables false
set_option linter.unusedSimpArgs false

theorem Check_big2 (l : List I) (h : l.length = 0 ∨ 256 < l.length) : Evt (fun k => shape_Check.f k l) (0, 40) := by
  unfold shape_Check.f
  refine Evt.congr (g' := fun k => shape_Check.j0 k l true) ?_ (fun k => ?_)
  · apply Evt.step2
    · intro k
      simp only [shape_Check.j0, if_true]
      rfl
    · exact Evt.const _
  · by_cases h0 : l.length = 0
    · rw [if_pos (by omega)]
    · rw [if_neg (by omega), show decide ((l.length : Int) > 256) = true from by simp; omega]

/-! ### what becomes of an instruction -/
def by_ (T : List Int) (t p : Int) : Int := wrap64 (wrap64 (rd T t - rd T p) - 1)
def fixC (x : I) (j a : Bool) (b : Int) : I :=
  if j = true then (if x.f0 = 133 then ⟨x.f0, x.f1, x.f2, x.f3, wrap32 b⟩ else if a = true then ⟨5, 0, 0, IntKind.i16.wrap b, 0⟩ else ⟨x.f0, x.f1, x.f2, IntKind.i16.wrap b, x.f4⟩) else x
def fixI (l : List I) (A : List Bool) (T : List Int) (p : Nat) : I := fixC (rd_T43 l p) (tgt l p).2 (rdOf false A p) (by_ T (tgt l p).1 p)
def prun (l : List I) (ns : List Nt) (K A : List Bool) (T : List Int) : Nat → Nat → List I → List Nt → List I × List Nt
  | 0, _, o, q => (o, q)
  | f + 1, p, o, q =>
    if rdOf false K p = true then
      (if (fixI l A T p).f0 = 24 then prun l ns K A T f (p + 1) (o ++ [fixI l A T p] ++ [rd_T43 l ((p + 1 : Nat) : Int)]) (q ++ [rd_T34 ns p] ++ [rd_T34 ns ((p + 1 : Nat) : Int)])
       else prun l ns K A T f (p + 1) (o ++ [fixI l A T p]) (q ++ [rd_T34 ns p]))
    else prun l ns K A T f (p + 1) o q

theorem prune_j2 (l : List I) (ns : List Nt) (K A : List Bool) (T : List Int) (L : Int) (o : List I) (q : List Nt) (p : Nat) (x : I) (R : List I × List Nt × Int) (hp : p < l.length) (hns : ns.length = l.length) (hsm : l.length < 1000000)
    (ho : o.length ≤ 2 * p) (hq : q.length ≤ 2 * p) (hw : x.f0 = 24 → p + 1 < l.length)
    (h1 : x.f0 = 24 → Evt (fun k => prune_Prune.l0 k l ns [0] (o ++ [x] ++ [rd_T43 l ((p + 1 : Nat) : Int)]) (q ++ [rd_T34 ns p] ++ [rd_T34 ns ((p + 1 : Nat) : Int)]) K L ((p + 1 : Nat) : Int) A T) R)
    (h2 : x.f0 ≠ 24 → Evt (fun k => prune_Prune.l0 k l ns [0] (o ++ [x]) (q ++ [rd_T34 ns p]) K L ((p + 1 : Nat) : Int) A T) R) :
    Evt (fun k => prune_Prune.j2 k l ns [0] o q p K L p A T x.f0 x.f1 x.f2 x.f3 x.f4) R := by
  have ew : wrap64 ((p : Int) + 1) = ((p + 1 : Nat) : Int) := by unfold wrap64; omega
  by_cases h24 : x.f0 = 24
  · have hp1 := hw h24
    refine Evt.step2 (g' := fun k => prune_Prune.l0 k l ns [0] (o ++ [x] ++ [rd_T43 l ((p + 1 : Nat) : Int)]) (q ++ [rd_T34 ns p] ++ [rd_T34 ns ((p + 1 : Nat) : Int)]) K L ((p + 1 : Nat) : Int) A T) (fun k => ?_) (h1 h24)
    simp only [prune_Prune.j2, Option.bind_some, insn_Wide.f, List.length_append, List.length_singleton, ew]
    rw [if_pos (by omega), if_pos (by omega), if_pos (by omega), if_pos (by omega), if_pos (by simp [h24]), if_pos (by omega), if_pos (by omega), if_pos (by omega), if_pos (by omega), if_pos (by omega)]
  · refine Evt.step2 (g' := fun k => prune_Prune.l0 k l ns [0] (o ++ [x]) (q ++ [rd_T34 ns p]) K L ((p + 1 : Nat) : Int) A T) (fun k => ?_) (h2 h24)
    simp only [prune_Prune.j2, Option.bind_some, insn_Wide.f, List.length_append, List.length_singleton, ew]
    rw [if_pos (by omega), if_pos (by omega), if_pos (by omega), if_pos (by omega), if_neg (by simpa using h24)]

theorem fixC_wide (x : I) (j a : Bool) (b : Int) (h : (fixC x j a b).f0 = 24) : x.f0 = 24 := by
  unfold fixC at h
  split at h
  · split at h
    · exact h
    · split at h
      · exact absurd h (by show ¬ ((5 : Int) = 24); decide)
      · exact h
  · exact h

theorem prune_loop (l : List I) (hP : Prog l) (ns : List Nt) (hns : ns.length = l.length) (K A : List Bool) (T : List Int) (hK : K.length = l.length) (hA : A.length = l.length) (hT : T.length = l.length + 1)
    (hKb : ∀ p, p < l.length → rdOf false K (p : Int) = true → p ∈ begins l) (hwide : ∀ p, p < l.length → p ∈ begins l → (rd_T43 l p).f0 = 24 → p + 1 < l.length) (R : List I × List Nt × Int) :
    ∀ (f p : Nat) (o : List I) (q : List Nt), p + f = l.length → o.length ≤ 2 * p → q.length ≤ 2 * p →
    Evt (fun k => (shape_Check.f k (prun l ns K A T f p o q).1).bind fun bt => if bt.2 = 0 then some ((prun l ns K A T f p o q).1, (prun l ns K A T f p o q).2, 0) else some ([], [], 2)) R →
    Evt (fun k => prune_Prune.l0 k l ns [0] o q K (K.length : Int) p A T) R := by
  have hsm := hP.small
  intro f
  induction f with
  | zero =>
    intro p o q hp ho hq hR
    refine Evt.step2 (fun k => ?_) hR
    simp only [prune_Prune.l0, prun]
    rw [if_neg (by omega)]
  | succ f ih =>
    intro p o q hp ho hq hR
    have hpl : p < l.length := by omega
    have ew : wrap64 ((p : Int) + 1) = ((p + 1 : Nat) : Int) := by unfold wrap64; omega
    simp only [prun] at hR
    cases hk : rdOf false K (p : Int)
    · rw [hk] at hR
      simp only [Bool.false_eq_true, if_false] at hR
      refine Evt.step2 (fun k => ?_) (ih (p + 1) o q (by omega) (by omega) (by omega) hR)
      simp only [prune_Prune.l0, hk, ew]
      rw [if_pos (by omega), if_pos (by omega), if_pos (by omega), if_neg (by decide)]
    · rw [hk] at hR
      simp only [if_true] at hR
      have hb := hKb p hpl hk
      have hT2 := Target_eq l hP p hpl
      rw [if_pos hb] at hT2
      have htr := tgt_range l p
      have hw := hwide p hpl hb
      have key : ∀ x : I, x = fixI l A T p → Evt (fun k => prune_Prune.j2 k l ns [0] o q p K (K.length : Int) p A T x.f0 x.f1 x.f2 x.f3 x.f4) R := by
        intro x hx
        have hxw : x.f0 = 24 → p + 1 < l.length := fun h24 => hw (fixC_wide _ _ _ _ (by rw [hx] at h24; exact h24))
        refine prune_j2 l ns K A T _ o q p x R hpl hns hsm ho hq hxw (fun h24 => ?_) (fun h24 => ?_)
        · rw [← hx, if_pos h24] at hR
          exact ih (p + 1) _ _ (by omega) (by simp only [List.length_append, List.length_singleton]; omega) (by simp only [List.length_append, List.length_singleton]; omega) hR
        · rw [← hx, if_neg h24] at hR
          exact ih (p + 1) _ _ (by omega) (by simp only [List.length_append, List.length_singleton]; omega) (by simp only [List.length_append, List.length_singleton]; omega) hR
      unfold fixI at key
      generalize hx : rd_T43 l (p : Int) = x at key hw
      generalize ht : tgt l p = tt at key htr hT2
      generalize ha : rdOf false A (p : Int) = a at key
      obtain ⟨t, j⟩ := tt
      refine Evt.step2 (g' := fun k => (shape_Target.f k l (p : Int)).bind fun bt243 => (if bt243.2 = true then (if 0 ≤ bt243.1 then (if bt243.1 < (T.length : Int) then (if (p : Int) < (T.length : Int) then (if x.f0 = 133 then (prune_Prune.j2 k l ns [0] o q p K (K.length : Int) p A T x.f0 x.f1 x.f2 x.f3 (wrap32 (wrap64 ((wrap64 ((rd T bt243.1) - (rd T p))) - 1)))) else (if (p : Int) < (A.length : Int) then (if a = true then (prune_Prune.j2 k l ns [0] o q p K (K.length : Int) p A T 5 0 0 (IntKind.i16.wrap (wrap64 ((wrap64 ((rd T bt243.1) - (rd T p))) - 1))) 0) else (prune_Prune.j2 k l ns [0] o q p K (K.length : Int) p A T x.f0 x.f1 x.f2 (IntKind.i16.wrap (wrap64 ((wrap64 ((rd T bt243.1) - (rd T p))) - 1))) x.f4)) else none)) else none) else none) else none) else (prune_Prune.j2 k l ns [0] o q p K (K.length : Int) p A T x.f0 x.f1 x.f2 x.f3 x.f4))) (fun k => ?_) (Evt.bind hT2 ?_)
      · simp only [prune_Prune.l0, hk, if_true, hx, ha]
        rw [if_pos (by omega), if_pos (by omega), if_pos (by omega), if_pos (by omega)]
      · cases j
        · simp only [Bool.false_eq_true, if_false]
          exact key x (by simp [fixC])
        · obtain ⟨ht0, ht1⟩ := htr rfl
          simp only [] at ht0 ht1
          have ht2 : t < (T.length : Int) := by omega
          have hp2 : (p : Int) < (T.length : Int) := by omega
          have hp3 : (p : Int) < (A.length : Int) := by omega
          simp only [if_true, ht0, ht2, hp2, hp3]
          by_cases h133 : x.f0 = 133
          · simp only [h133, if_true]
            rw [← h133]
            exact key ⟨x.f0, x.f1, x.f2, x.f3, wrap32 (by_ T t p)⟩ (by simp only [fixC, if_true]; rw [if_pos h133])
          · simp only [h133, if_false]
            cases a
            · simp only [Bool.false_eq_true, if_false]
              exact key ⟨x.f0, x.f1, x.f2, IntKind.i16.wrap (by_ T t p), x.f4⟩ (by simp only [fixC, if_true]; rw [if_neg h133]; simp)
            · simp only [if_true]
              exact key ⟨5, 0, 0, IntKind.i16.wrap (by_ T t p), 0⟩ (by simp only [fixC, if_true]; rw [if_neg h133])
end Go.Proofs.Ytmijlibnembkaaa.Pure
