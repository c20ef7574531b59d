/- Small bridges of this session's own between the printer's words (Kd) and the library's (ownsRow, Holds). -/
import Derived.Test.YtmijlibnembkaaaMkWords
import Derived.Lib.OwnBridge
import Derived.Sort.OwnSortedInts
namespace Go.Proofs.YtmijlibnembkaaaX
open Go.RowKit Go.Proofs.YtmijlibnembkaaaW.PrintWords Go.Proofs.YtmijlibnembkaaaW.PrintLast Go.Sort

theorem reps_scalar {α : Type} (enc : α → Value) {xs : List α} {cs : List Value} (h : Reps (fun x c => c = [enc x]) 1 xs cs) : cs = xs.map enc := by
 obtain ⟨hl, h⟩ := h
 apply List.ext_getElem (by simpa using hl)
 intro j h1 h2
 have hj : j < xs.length := by simpa using h2
 have := h j xs[j] (List.getElem?_eq_getElem hj)
 have h3 : (List.take 1 (List.drop (j * 1) cs))[0]? = ([enc xs[j]] : List Value)[0]? := by rw [this]
 simp only [Nat.mul_one, List.getElem?_take, List.getElem?_drop, Nat.add_zero] at h3
 simp only [List.getElem?_cons_zero, Nat.lt_add_one, if_true] at h3
 rw [List.getElem?_eq_getElem h1] at h3
 simpa using h3

theorem scalar_reps {α : Type} (enc : α → Value) (xs : List α) : Reps (fun x c => c = [enc x]) 1 xs (xs.map enc) := by
 refine ⟨by simp, fun j p hp => ?_⟩
 have hj : j < xs.length := (List.getElem?_eq_some_iff.1 hp).1
 rw [Nat.mul_one, List.drop_eq_getElem_cons (by simpa using hj)]
 simp only [List.take_succ_cons, List.take_zero, List.getElem_map]
 rw [List.getElem?_eq_getElem hj] at hp
 rw [Option.some.inj hp]

/-- A row of whole numbers of the call's own, in both vocabularies. -/
theorem R_int_own {k : IntKind} {e : Nat} {w : World} {base : Nat} {ok : Nat → Prop} {v : Value} {xs : List Int} (h : Kd.R (Kd.int k) e w base ok v xs) :
  (∀ b, v.ownBlock = some b → ok b) ∧ w.ownsRow base e 1 v xs.length (xs.map (Value.int k)) := by
 obtain ⟨h0, inner, ho, hr⟩ := h
 obtain rfl := reps_scalar (Value.int k) hr
 exact ⟨h0, ho⟩

theorem R_int_mk {k : IntKind} {e : Nat} {w : World} {base : Nat} {ok : Nat → Prop} {v : Value} {xs : List Int} (h0 : ∀ b, v.ownBlock = some b → ok b) (h : w.ownsRow base e 1 v xs.length (xs.map (Value.int k))) :
  Kd.R (Kd.int k) e w base ok v xs := ⟨h0, _, h, scalar_reps _ _⟩

theorem kept_grown {w w' : World} {g : Nat} {S : Nat → Prop} (h : w.grownBy w' (some g)) (hg : S g) : Kept w w' S :=
 ⟨h.size, fun i hi hn => h.block i hi (fun e => hn (by injection e with e; rw [e]; exact hg))⟩

theorem own_some {w : World} {base : Nat} {e : TypeId} {size n : Nat} {v : Value} {xs : List Value} (h : w.ownsRow base e size v n xs) (hn : n ≠ 0) :
  ∃ g cap cur, v = .slice (some ⟨g, 0, none⟩) n cap ∧ base ≤ g ∧ w.heap[g]? = some (.cells cur e (0, 0)) ∧ n ≤ cap ∧ cap ≤ maxLen ∧ cur.size = cap * size ∧ cur.toList.take (n * size) = xs := by
 rcases h.2 with ⟨_, h0⟩ | h2
 ·
  exact absurd h0 hn
 ·
  exact h2

theorem grown_drewN {w w' : World} {row : Option Nat} {n : Nat} (h : (w.drewN n).grownBy w' row) : w.grownBy w' row := ⟨h.os, h.tape, h.output, h.size, h.block⟩

/-- A row of cells written anew in a block (a library call's own words): nothing else has turned. -/
theorem grownBy_putRow {α : Type} [Inhabited α] {enc : α → Value} {w : World} {g q : Nat} (d : Array α) : w.grownBy (putRow enc (Sort.ahead w q) g 0 d) (some g) := by
 refine ⟨rfl, rfl, rfl, by simp [putRow, mapBlock, Sort.ahead], fun k hk hne => ?_⟩
 have : g ≠ k := fun e => hne (by rw [e])
 simp [putRow, mapBlock, Sort.ahead, Array.getElem?_modify, this]
theorem sub_none {w : World} {a : Addr} {v : Value} (h : w.cell? a = some v) : a = ⟨a.block, a.off, none⟩ := by
 obtain ⟨b, o, s⟩ := a
 cases s with
 | none => rfl
 | some s =>
  simp only [World.cell?, Option.isSome_some, if_true] at h
  split at h <;> simp at h

/-- The cells of a row of whole numbers that is read. -/
theorem C_int_cells {k : IntKind} {w : World} {A : Option Addr} {n : Nat} {xs : List Int} (h : Kd.C (Kd.int k) w A n xs) (hn : 0 < xs.length) :
  ∃ b off, A = some ⟨b, off, none⟩ ∧ ∀ j, j < xs.length → w.cell? ⟨b, off + j, none⟩ = some (.int k (xs.getD j 0)) := by
 have hl : xs.length = n := h.1
 obtain ⟨ad, rfl, h0⟩ := Kd.at_int h 0 (by omega) (by omega)
 have hs : ad = ⟨ad.block, ad.off, none⟩ := sub_none (by simpa [Addr.add] using h0)
 refine ⟨ad.block, ad.off, by rw [← hs], fun j hj => ?_⟩
 obtain ⟨ad', e, h1⟩ := Kd.at_int h j (by omega) (by omega)
 cases e
 rw [hs] at h1
 by_cases hj0 : j = 0
 ·
  subst hj0
  simpa [Addr.add, rd] using h1
 ·
  simpa [Addr.add, rd, hj0] using h1

/-- A variable in memory whose value is a row of the call's own: told as a row of one row. -/
theorem box_new {α : Type} {d : Kd α} {e T : Nat} {W : World} {base : Nat} {v : Value} {xs : List α} (h : Kd.R d e W base (fun _ => True) v xs) (hb : base ≤ W.heap.size) :
  Kd.R (Kd.slice e d) T (W.alloc (.cells #[v] T)) base (fun _ => True) (.slice (some ⟨W.heap.size, 0, none⟩) 1 1) [xs] := by
 refine ⟨fun _ _ => trivial, [v], ?_, ?_⟩
 ·
  exact ⟨by simp [Kd.slice], .inr ⟨W.heap.size, 1, #[v], rfl, hb, heap_alloc_new W _, Nat.le_refl _, by decide, by simp [Kd.slice], by simp [Kd.slice]⟩⟩
 ·
  refine ⟨by simp [Kd.slice], fun j p hp => ?_⟩
  cases j with
  | zero =>
   simp only [List.getElem?_cons_zero, Option.some.injEq] at hp
   subst hp
   refine ⟨v, by simp [Kd.slice], ?_⟩
   have h1 := Kd.R_below (Kd.R_bound h) ((Below.refl _ _).alloc (Nat.le_refl _) (.cells #[v] T))
   refine Kd.R_mono h1 (fun k hk => ⟨trivial, fun e => ?_⟩)
   simp only [Value.ownBlock, Option.some.injEq] at e
   omega
  | succ j => simp at hp

theorem box_read {α : Type} {d : Kd α} {e T : Nat} {w : World} {base : Nat} {ok : Nat → Prop} {B : Nat} {xs : List α} (h : Kd.R (Kd.slice e d) T w base ok (.slice (some ⟨B, 0, none⟩) 1 1) [xs]) :
  ∃ A c, w.cell? ⟨B, 0, none⟩ = some (.slice A xs.length c) ∧ xs.length ≤ c ∧ Kd.C d w A xs.length xs := by
 obtain ⟨A, c, he, hl, hC⟩ := Kd.R_reads h
 cases he
 obtain ⟨ad, cs, e1, _, hK, hc⟩ := Kd.C_get hC [] 0 (by omega) (by simp)
 cases e1
 obtain ⟨A, c, rfl, hl, hC⟩ := hK
 exact ⟨A, c, by simpa [Addr.add] using hc 0 _ rfl, hl, hC⟩
end Go.Proofs.YtmijlibnembkaaaX
