/- Plain facts on the printed shape.Parts and shape.Check: they come to an answer for every list. -/
import Derived.Test.YtmijlibnembkaaaMkPs
import Derived.Test.YtmijlibnembkaaaMkPAx8
import Derived.Test.YtmijlibnembkaaaMkPAx9
namespace Go.Proofs.Ytmijlibnembkaaa.Pure
open Go.RowKit Go.Proofs.Ytmijlibnembkaaa.PA Go.Proofs.YtmijlibnembkaaaW.PrintWords Go.Proofs.YtmijlibnembkaaaW.PrintLast Go.Proofs.YtmijlibnembkaaaX
set_option linter.unusedVariables false
set_option linter.unusedSimpArgs false

/-- With enough rounds it answers r. -/
def Evt {α : Type} (g : Nat → Option α) (r : α) : Prop := ∃ k0, ∀ k, k0 ≤ k → g k = some r
theorem Evt.step {α : Type} {g g' : Nat → Option α} {r : α} (h : Evt g' r) (e : ∀ k, g (k + 1) = g' k) : Evt g r := by
 obtain ⟨k0, h⟩ := h
 refine ⟨k0 + 1, fun k hk => ?_⟩
 obtain ⟨k, rfl⟩ : ∃ m, k = m + 1 := ⟨k - 1, by omega⟩
 rw [e]; exact h k (by omega)
theorem Evt.bind {α β : Type} {f : Nat → Option α} {g : Nat → α → Option β} {a : α} {b : β} (h : Evt f a) (h2 : Evt (fun k => g k a) b) : Evt (fun k => (f k).bind (g k)) b := by
 obtain ⟨k0, h⟩ := h
 obtain ⟨k1, h2⟩ := h2
 refine ⟨k0 + k1, fun k hk => ?_⟩
 show (f k).bind (g k) = some b
 rw [h k (by omega), Option.bind_some]
 exact h2 k (by omega)
theorem Evt.step2 {α : Type} {g g' : Nat → Option α} {r : α} (e : ∀ k, g (k + 1) = g' k) (h : Evt g' r) : Evt g r := Evt.step h e
theorem Evt.const {α : Type} (r : α) : Evt (fun _ => some r) r := ⟨0, fun _ _ => rfl⟩
theorem Evt.of {α : Type} {g : Nat → Option α} {r : α} (n : Nat) (h : ∀ k, n ≤ k → g k = some r) : Evt g r := ⟨n, h⟩
theorem Evt.congr {α : Type} {g g' : Nat → Option α} {r : α} (h : Evt g' r) (e : ∀ k, g k = g' k) : Evt g r := by
 obtain ⟨k0, h⟩ := h
 exact ⟨k0, fun k hk => by rw [e]; exact h k hk⟩
theorem Evt.later {α : Type} {g g' : Nat → Option α} {r : α} (n : Nat) (h : Evt g' r) (e : ∀ k, n ≤ k → g k = g' k) : Evt g r := by
 obtain ⟨k0, h⟩ := h
 exact ⟨k0 + n, fun k hk => by rw [e k (by omega)]; exact h k (by omega)⟩

/-- A list that a program may be. -/
structure Prog (l : List I) : Prop where
 small : l.length < 1000000
 ok : ∀ x ∈ l, okI x

theorem Prog.at_ {l : List I} (h : Prog l) (i : Nat) (hi : i < l.length) : okI (rd_T43 l i) := h.ok _ (rd_mem l i hi)

/-! ### the parts -/
def callsAt (l : List I) (i : Nat) : Bool := decide (i ∈ begins l) && (tgt l i).2 && decide ((rd_T43 l i).f0 = 133)
def callsFrom (l : List I) : Nat → Nat → List Int
 | 0, _ => []
 | n + 1, i => if callsAt l i = true then (tgt l i).1 :: callsFrom l n (i + 1) else callsFrom l n (i + 1)
def parts (l : List I) : List Int := if l.length = 0 then [] else dd (isort (0 :: callsFrom l l.length 0))

theorem callsFrom_length (l : List I) (n i : Nat) : (callsFrom l n i).length ≤ n := by
 induction n generalizing i with
 | zero => exact Nat.le_refl _
 | succ n ih =>
  unfold callsFrom
  have := ih (i + 1)
  split
  ·
   simp; omega
  ·
   omega
theorem tgt_range (l : List I) (i : Nat) (h : (tgt l i).2 = true) : 0 ≤ (tgt l i).1 ∧ (tgt l i).1 < l.length := by
 unfold tgt at h ⊢
 split
 ·
  rename_i hh; exact ⟨hh.2.1, hh.2.2⟩
 ·
  rename_i hh; rw [if_neg hh] at h; cases h
theorem callsFrom_range (l : List I) (n i : Nat) : ∀ x ∈ callsFrom l n i, 0 ≤ x ∧ x < l.length := by
 induction n generalizing i with
 | zero => intro x hx; cases hx
 | succ n ih =>
  intro x hx
  unfold callsFrom at hx
  split at hx
  ·
   rename_i hc
   rcases List.mem_cons.1 hx with rfl | hx
   ·
    simp only [callsAt, Bool.and_eq_true] at hc
    exact tgt_range l i hc.1.2
   ·
    exact ih _ x hx
  ·
   exact ih _ x hx

theorem Parts_loop (l : List I) (hP : Prog l) : ∀ (n i : Nat) (acc : List Int), l.length - i ≤ n → i ≤ l.length → 0 < acc.length → acc.length + n < 1000000000 →
  Evt (fun k => shape_Parts.l0 k l acc (starts l) (l.length : Int) (i : Int)) (dd (isort (acc ++ callsFrom l n i))) := by
 intro n
 induction n with
 | zero =>
  intro i acc hn hi h0 h1
  refine Evt.step (g' := fun k => some (dd (isort (acc ++ callsFrom l 0 i)))) (Evt.const _) (fun k => ?_)
  simp only [shape_Parts.l0]
  rw [if_neg (by omega)]
  have e0 : ¬ acc.length = 0 := by omega
  have e1 : ¬ 4611686018427387904 ≤ acc.length := by omega
  simp only [slices_Sort_int.f, slices_Compact_int.f, if_neg e0, if_neg e1, Option.bind_some, isort_length, callsFrom, List.append_nil]
 | succ n ih =>
  intro i acc hn hi h0 h1
  by_cases h : i < l.length
  ·
   have ew : wrap64 ((i : Int) + 1) = ((i + 1 : Nat) : Int) := by have := hP.small; unfold wrap64; omega
   have hsl : (i : Int) < ((starts l).length : Int) := by rw [starts_length]; omega
   have hgoal : Evt (fun k => if rdOf false (starts l) (i : Int) = true then (if (tgt l i).2 = true then (if (i : Int) < (l.length : Int) then (if (rd_T43 l (i : Int)).f0 = 133 then (if acc.length < 17592186044416 then shape_Parts.l0 k l (acc ++ [(tgt l i).1]) (starts l) (l.length : Int) ((i + 1 : Nat) : Int) else none) else shape_Parts.l0 k l acc (starts l) (l.length : Int) ((i + 1 : Nat) : Int)) else none) else shape_Parts.l0 k l acc (starts l) (l.length : Int) ((i + 1 : Nat) : Int)) else shape_Parts.l0 k l acc (starts l) (l.length : Int) ((i + 1 : Nat) : Int)) (dd (isort (acc ++ callsFrom l (n + 1) i))) := by
    rw [starts_get l i h]
    unfold callsFrom
    have hno : callsAt l i = false → Evt (fun k => shape_Parts.l0 k l acc (starts l) (l.length : Int) ((i + 1 : Nat) : Int)) (dd (isort (acc ++ if callsAt l i = true then (tgt l i).1 :: callsFrom l n (i + 1) else callsFrom l n (i + 1)))) := by
     intro hc
     rw [hc, if_neg (by decide)]
     exact ih (i + 1) acc (by omega) (by omega) h0 (by omega)
    by_cases hb : i ∈ begins l
    ·
     by_cases ht : (tgt l i).2 = true
     ·
      by_cases ho : (rd_T43 l (i : Int)).f0 = 133
      ·
       have hc : callsAt l i = true := by simp [callsAt, hb, ht, ho]
       have := ih (i + 1) (acc ++ [(tgt l i).1]) (by omega) (by omega) (by simp) (by simp; omega)
       refine Evt.congr (g' := fun k => shape_Parts.l0 k l (acc ++ [(tgt l i).1]) (starts l) (l.length : Int) ((i + 1 : Nat) : Int)) ?_ (fun k => ?_)
       ·
        rw [hc, if_pos rfl]
        simpa using this
       ·
        rw [if_pos (by simp [hb]), if_pos ht, if_pos (by omega), if_pos ho, if_pos (by omega)]
      ·
       have hc : callsAt l i = false := by simp [callsAt, ho]
       refine Evt.congr (hno hc) (fun k => ?_)
       rw [if_pos (by simp [hb]), if_pos ht, if_pos (by omega), if_neg ho]
     ·
      have hc : callsAt l i = false := by simp [callsAt, ht]
      refine Evt.congr (hno hc) (fun k => ?_)
      rw [if_pos (by simp [hb]), if_neg ht]
    ·
     have hc : callsAt l i = false := by simp [callsAt, hb]
     refine Evt.congr (hno hc) (fun k => ?_)
     rw [if_neg (by simp [hb])]
   apply Evt.step2
   ·
    intro k
    simp only [shape_Parts.l0]
    rw [if_pos (by omega), if_pos (by omega), if_pos hsl, ew]
   ·
    exact Evt.bind (Evt.of 1 fun k hk => target_eq l i h (by have := hP.small; omega) hP.ok k hk) hgoal
  ·
   have hi' : i = l.length := by omega
   have hz : ∀ m j, l.length ≤ j → callsFrom l m j = [] := by
    intro m
    induction m with
    | zero => intro j _; rfl
    | succ m ihm =>
     intro j hj
     unfold callsFrom
     have : (tgt l j).2 = false := by
      unfold tgt
      rw [if_neg]
      intro hh
      have e : rd_T43 l (j : Int) = z43 := by simp [rd_T43, List.getElem?_eq_none hj]
      rw [e] at hh
      have : (jmp z43).2 = false := by
       unfold jmp jumpsC
       have : clsB z43.f0 = 0 := by rw [cls_eq _ (by decide) (by decide)]; rfl
       rw [this]; simp
      rw [this] at hh
      exact absurd hh.1 (by decide)
     rw [if_neg (by simp [callsAt, this])]
     exact ihm _ (by omega)
   refine Evt.step (g' := fun k => some (dd (isort (acc ++ callsFrom l (n + 1) i)))) (Evt.const _) (fun k => ?_)
   simp only [shape_Parts.l0]
   rw [if_neg (by omega), hz (n + 1) i (by omega)]
   have e0 : ¬ acc.length = 0 := by omega
   have e1 : ¬ 4611686018427387904 ≤ acc.length := by omega
   simp only [slices_Sort_int.f, slices_Compact_int.f, if_neg e0, if_neg e1, Option.bind_some, isort_length, List.append_nil]

theorem Parts_eq (l : List I) (hP : Prog l) : Evt (fun k => shape_Parts.f k l) (parts l) := by
 unfold parts shape_Parts.f
 by_cases h : l.length = 0
 ·
  rw [if_pos h]
  refine Evt.congr (Evt.const _) (fun k => ?_)
  rw [if_pos (by omega)]
 ·
  rw [if_neg h]
  have h1 := Parts_loop l hP l.length 0 [0] (by omega) (by omega) (by simp) (by have := hP.small; simp; omega)
  refine Evt.congr (g' := fun k => (shape_Starts.f k l).bind fun t142 => shape_Parts.l0 k l [0] t142 (t142.length : Int) 0) ?_ (fun k => by rw [if_neg (by omega)])
  refine Evt.bind (Evt.of _ fun k hk => Starts_eq l (by have := hP.small; omega) hP.ok k hk) ?_
  rw [starts_length]
  exact h1
end Go.Proofs.Ytmijlibnembkaaa.Pure
