/- Plain lists: sorting and compacting as structural functions (that the kernel can run). -/
import Derived.Lib.SlicesCompact
namespace Go.Proofs.YtmijlibnembkaaaX

def ins (x : Int) : List Int → List Int
 | [] => [x]
 | y :: t => if x ≤ y then x :: y :: t else y :: ins x t
def isort : List Int → List Int
 | [] => []
 | x :: t => ins x (isort t)
/-- Runs of equal elements become one; 'x' stands ahead of the list. -/
def ddFrom (x : Int) : List Int → List Int
 | [] => []
 | y :: t => if y = x then ddFrom x t else y :: ddFrom y t
def dd : List Int → List Int
 | [] => []
 | x :: t => x :: ddFrom x t

theorem ins_perm (x : Int) (l : List Int) : List.Perm (ins x l) (x :: l) := by
 induction l with
 | nil => exact List.Perm.refl _
 | cons y t ih =>
  unfold ins
  split
  ·
   exact List.Perm.refl _
  ·
   exact (List.Perm.cons y ih).trans (List.Perm.swap x y t)
theorem isort_perm (l : List Int) : List.Perm (isort l) l := by
 induction l with
 | nil => exact List.Perm.refl _
 | cons x t ih => exact (ins_perm x (isort t)).trans (List.Perm.cons x ih)
theorem ins_sorted (x : Int) (l : List Int) (h : l.Pairwise (· ≤ ·)) : (ins x l).Pairwise (· ≤ ·) := by
 induction l with
 | nil => simp [ins]
 | cons y t ih =>
  unfold ins
  have hy := List.pairwise_cons.1 h
  split
  ·
   rename_i hxy
   refine List.pairwise_cons.2 ⟨fun z hz => ?_, h⟩
   rcases List.mem_cons.1 hz with rfl | hz
   ·
    exact hxy
   ·
    have := hy.1 z hz; omega
  ·
   rename_i hxy
   refine List.pairwise_cons.2 ⟨fun z hz => ?_, ih hy.2⟩
   rcases List.mem_cons.1 ((ins_perm x t).mem_iff.1 hz) with rfl | hz
   ·
    omega
   ·
    exact hy.1 z hz
theorem isort_sorted (l : List Int) : (isort l).Pairwise (· ≤ ·) := by
 induction l with
 | nil => exact List.Pairwise.nil
 | cons x t ih => exact ins_sorted x _ ih
theorem merge_isort (l : List Int) : (l.mergeSort fun x y => decide (x ≤ y)) = isort l := by
 refine List.Perm.eq_of_pairwise (le := fun x y => x ≤ y) ?_ ?_ (isort_sorted l) ((List.mergeSort_perm l _).trans (isort_perm l).symm)
 ·
  intro a b _ _ h1 h2; omega
 ·
  have := List.pairwise_mergeSort (le := fun x y : Int => decide (x ≤ y)) (fun a b c h1 h2 => by simp at *; omega) (fun a b => by simp; omega) l
  exact this.imp (fun h => by simpa using h)
theorem isort_length (l : List Int) : (isort l).length = l.length := (isort_perm l).length_eq
theorem isort_mem (l : List Int) (x : Int) : x ∈ isort l ↔ x ∈ l := (isort_perm l).mem_iff

theorem dd_aux (x : Int) (t : List Int) : (((List.range t.length).filter (fun j => decide (t[j]! ≠ (x :: t)[j]!))).map (t[·]!)) = ddFrom x t := by
 induction t generalizing x with
 | nil => rfl
 | cons y s ih =>
  rw [List.length_cons, List.range_succ_eq_map, List.filter_cons]
  have h2 : (((List.map Nat.succ (List.range s.length)).filter (fun j => decide ((y :: s)[j]! ≠ (x :: y :: s)[j]!))).map ((y :: s)[·]!)) = ddFrom y s := by
   rw [← ih y, List.filter_map, List.map_map]
   congr 1
  by_cases h : y = x
  ·
   subst h
   simp only [ddFrom]
   simpa using h2
  ·
   simp only [ddFrom, if_neg h]
   have : decide ((y :: s)[0]! ≠ (x :: y :: s)[0]!) = true := by simpa using h
   rw [if_pos this, List.map_cons, h2]
   rfl
theorem compact_dd (l : List Int) : Go.Lib.compact l = dd l := by
 cases l with
 | nil => rfl
 | cons x t =>
  show Go.Lib.compactUpTo (x :: t).toArray (t.length + 1) = _
  unfold Go.Lib.compactUpTo
  rw [List.range_succ_eq_map, List.filter_cons]
  have h0 : Go.Lib.keeps (x :: t).toArray 0 = true := by simp [Go.Lib.keeps]
  rw [if_pos h0, List.map_cons]
  show _ :: _ = x :: ddFrom x t
  congr 1
  rw [← dd_aux x t, List.filter_map, List.map_map]
  have : ((Go.Lib.keeps (x :: t).toArray) ∘ Nat.succ) = fun j => decide (t[j]! ≠ (x :: t)[j]!) := by
   funext j
   simp [Go.Lib.keeps]
  rw [this]
  apply List.map_congr_left
  intro j _
  simp

theorem ddFrom_le (x : Int) (l : List Int) : (ddFrom x l).length ≤ l.length := by
 induction l generalizing x with
 | nil => exact Nat.le_refl _
 | cons y t ih =>
  unfold ddFrom
  split
  ·
   have := ih x; simp; omega
  ·
   have := ih y; simp; omega
theorem dd_le (l : List Int) : (dd l).length ≤ l.length := by
 cases l with
 | nil => exact Nat.le_refl _
 | cons x t => have := ddFrom_le x t; simp [dd]; omega
theorem ddFrom_mem (x : Int) (l : List Int) (z : Int) : z = x ∨ z ∈ ddFrom x l ↔ z = x ∨ z ∈ l := by
 induction l generalizing x with
 | nil => simp [ddFrom]
 | cons y t ih =>
  unfold ddFrom
  split
  ·
   rename_i h; subst h
   have := ih y
   simp only [List.mem_cons]
   constructor
   ·
    intro h; rcases this.1 h with h | h <;> simp [h]
   ·
    rintro (h | h | h)
    ·
     exact .inl h
    ·
     exact .inl h
    ·
     exact this.2 (.inr h)
  ·
   have := ih y
   simp only [List.mem_cons]
   constructor
   ·
    rintro (h | h | h)
    ·
     exact .inl h
    ·
     exact .inr (.inl h)
    ·
     exact .inr (this.1 (.inr h))
   ·
    rintro (h | h)
    ·
     exact .inl h
    ·
     exact .inr (this.2 h)
theorem dd_mem (l : List Int) (z : Int) : z ∈ dd l ↔ z ∈ l := by
 cases l with
 | nil => simp [dd]
 | cons x t => simpa [dd] using ddFrom_mem x t z
theorem ddFrom_lt (x : Int) (l : List Int) (h : (x :: l).Pairwise (· ≤ ·)) : (x :: ddFrom x l).Pairwise (· < ·) := by
 induction l generalizing x with
 | nil => simp [ddFrom]
 | cons y t ih =>
  have h1 := List.pairwise_cons.1 h
  have h2 := List.pairwise_cons.1 h1.2
  unfold ddFrom
  split
  ·
   rename_i e; subst e
   exact ih y h1.2
  ·
   rename_i e
   have hxy := h1.1 y (List.mem_cons_self)
   have h3 := ih y h1.2
   refine List.pairwise_cons.2 ⟨fun z hz => ?_, h3⟩
   rcases List.mem_cons.1 hz with rfl | hz
   ·
    omega
   ·
    have := (List.pairwise_cons.1 h3).1 z hz; omega
theorem dd_lt (l : List Int) (h : l.Pairwise (· ≤ ·)) : (dd l).Pairwise (· < ·) := by
 cases l with
 | nil => exact List.Pairwise.nil
 | cons x t => exact ddFrom_lt x t h
end Go.Proofs.YtmijlibnembkaaaX
