/- Slices of structs that came in, opened: what they read as. -/
import Derived.Test.YtmijlibnembkaaaMkPAx0
import Derived.ProofKit
import Derived.OpenShut
import Derived.Deep.Slices
import Derived.ChangeArms
import Derived.SizedLaws
namespace Go
theorem Deep.choose_lt' {α : Type} [Inhabited α] {n : Nat} {p : Nat → α → Prop} (h : ∀ i, i < n → ∃ x, p i x) : ∃ f : Nat → α, ∀ i, i < n → p i (f i) := Deep.choose_lt h
end Go
namespace Go.Proofs.Ytmijlibnembkaaa.Op
open Go.RowKit Go.Proofs.Ytmijlibnembkaaa.PA Go.Proofs.YtmijlibnembkaaaW.PrintWords Go.Proofs.YtmijlibnembkaaaW.PrintLast Go.ChangeShapes Go.WideShapes Go.ChangeAt
set_option linter.unusedVariables false
set_option linter.unusedSimpArgs false
theorem list3 {α : Type} {l : List α} (h : l.length = 3) : ∃ c0 c1 c2 : α, l = [c0, c1, c2] := by
 match l, h with
 | [c0, c1, c2], _ => exact ⟨c0, c1, c2, rfl⟩
theorem list4 {α : Type} {l : List α} (h : l.length = 4) : ∃ c0 c1 c2 c3 : α, l = [c0, c1, c2, c3] := by
 match l, h with
 | [c0, c1, c2, c3], _ => exact ⟨c0, c1, c2, c3, rfl⟩
theorem list5 {α : Type} {l : List α} (h : l.length = 5) : ∃ c0 c1 c2 c3 c4 : α, l = [c0, c1, c2, c3, c4] := by
 match l, h with
 | [c0, c1, c2, c3, c4], _ => exact ⟨c0, c1, c2, c3, c4, rfl⟩
instance : Inhabited S34 := ⟨z34⟩
instance : Inhabited S43 := ⟨z43⟩
instance : Inhabited S80 := ⟨z80⟩
def okS34 (x : S34) : Prop := ((-9223372036854775808) ≤ x.f2 ∧ x.f2 < 9223372036854775808)
theorem cells_34 : Try.prog.cellsOf 34 = 3 := by kernel_rfl
theorem one_3 : Try.prog.cellsOf 3 = 1 := by kernel_rfl
theorem one_4 : Try.prog.cellsOf 4 = 1 := by kernel_rfl
theorem openS34 {H : Type} {enc : TypeId × Value → H} {w : World} {t : TypeId} {a : Option Addr} {len cap : Nat} {d : DataW H} {ps : List MemPlace} (ht : Try.prog.underlying t = some (.slice 34)) (h : DataW.Trod enc Try.prog w 0 (fun _ => true) true t (.slice a len cap) d ps) :
  ∃ xs : List S34, xs.length = len ∧ len ≤ cap ∧ Kd.C k34 w a len xs ∧ (∀ x ∈ xs, okS34 x) ∧ ((d = .nil ∧ len = 0) ∨ ∃ es sp, d = .slice es sp ∧ es.length = len) := by
 obtain ⟨fuel, hf⟩ := h
 rcases Go.Deep.open_slice ht hf with ⟨hcs, hd⟩ | ⟨x, l, c, m, n, D, Pl, hcs, _, hl, hm, hmm, hd, hx⟩
 ·
  simp [Value.cells] at hcs
  obtain ⟨rfl, rfl, rfl⟩ := hcs
  simp only [Prod.mk.injEq] at hd
  exact ⟨[], rfl, Nat.le_refl _, ⟨rfl, by simp, fun h => by simp at h⟩, by simp, .inl ⟨hd.1, rfl⟩⟩
 ·
  simp [Value.cells] at hcs
  obtain ⟨rfl, rfl, rfl⟩ := hcs
  have hmc : m = cap := by simpa using hmm
  have hch : ∀ i, i < m → ∃ s : S34, (okS34 s ∧ ∀ j u, ([Value.bool s.f0, Value.bool s.f1, Value.int .i64 s.f2] : List Value)[j]? = some u → w.cell? ((x.add (i * 3)).add j) = some u) := by
   intro i hi
   obtain ⟨cs, h1, h2⟩ := hx i hi
   rw [cells_34] at h1
   obtain ⟨_, hlen, hcell⟩ := World.cells?_some h1
   obtain ⟨ys, n', _, _, _, hyl, hy⟩ := DataW.trod_struct Try.underlying34 h2
   obtain ⟨c0, c1, c2, rfl⟩ := list3 hlen
   have g0 := hy 0 _ rfl
   simp only [List.getElem_toArray, List.getElem_cons_zero, List.getElem_cons_succ, one_4, List.drop_zero, List.drop_succ_cons, List.take_succ_cons, List.take_zero] at g0
   rw [List.getElem?_eq_getElem (show 0 < ys.length by rw [hyl]; decide)] at g0
   obtain ⟨b0, e0, _⟩ := DataW.trod_bool Try.underlying4 g0
   simp only [List.cons.injEq, and_true] at e0
   subst e0
   have g1 := hy 1 _ rfl
   simp only [List.getElem_toArray, List.getElem_cons_zero, List.getElem_cons_succ, one_4, List.drop_zero, List.drop_succ_cons, List.take_succ_cons, List.take_zero] at g1
   rw [List.getElem?_eq_getElem (show 1 < ys.length by rw [hyl]; decide)] at g1
   obtain ⟨b1, e1, _⟩ := DataW.trod_bool Try.underlying4 g1
   simp only [List.cons.injEq, and_true] at e1
   subst e1
   have g2 := hy 2 _ rfl
   simp only [List.getElem_toArray, List.getElem_cons_zero, List.getElem_cons_succ, one_3, List.drop_zero, List.drop_succ_cons, List.take_succ_cons, List.take_zero] at g2
   rw [List.getElem?_eq_getElem (show 2 < ys.length by rw [hyl]; decide)] at g2
   obtain ⟨b2, e2, _, z2⟩ := DataW.trod_int Try.underlying3 g2
   simp only [List.cons.injEq, and_true] at e2
   subst e2
   refine ⟨⟨b0, b1, b2⟩, ?_, fun j u hu => ?_⟩
   ·
    unfold okS34
    have y2 := Go.bounds_i64 z2
    exact ⟨by dsimp only; omega, by dsimp only; omega⟩
   ·
    have hj : j < 3 := by
     rcases Nat.lt_or_ge j 3 with h | h
     ·
      exact h
     ·
      rw [List.getElem?_eq_none (by simpa using h)] at hu; cases hu
    rw [hcell j hj]
    exact hu
  obtain ⟨F, hF⟩ := Go.Deep.choose_lt' hch
  have hd := Prod.mk.inj hd
  have hcm : cap ≤ 9223372036854775807 := by simpa [maxLen] using hm
  refine ⟨(List.range len).map F, by simp, hl, ⟨by simp, by omega, fun _ => ⟨x, rfl, fun j p hp => ?_⟩⟩, fun p hp => ?_, .inr ⟨_, _, hd.1, by simp⟩⟩
  ·
   rw [List.getElem?_map] at hp
   by_cases hj : j < len
   ·
    rw [List.getElem?_range hj] at hp
    simp only [Option.map_some, Option.some.injEq] at hp
    subst hp
    refine ⟨_, ?_, k34_mk w (F j), fun i u hu => ?_⟩
    ·
     rfl
    ·
     have := (hF j (by omega)).2 i u hu
     rw [Go.Deep.add_add] at this
     exact this
   ·
    rw [List.getElem?_eq_none (by simp; omega)] at hp
    cases hp
  ·
   obtain ⟨j, hj, rfl⟩ := List.mem_map.1 hp
   exact (hF j (by have := List.mem_range.1 hj; omega)).1
def okS43 (x : S43) : Prop := (0 ≤ x.f0 ∧ x.f0 < 256) ∧ (0 ≤ x.f1 ∧ x.f1 < 256) ∧ (0 ≤ x.f2 ∧ x.f2 < 256) ∧ ((-32768) ≤ x.f3 ∧ x.f3 < 32768) ∧ ((-2147483648) ≤ x.f4 ∧ x.f4 < 2147483648)
theorem cells_43 : Try.prog.cellsOf 43 = 5 := by kernel_rfl
theorem one_5 : Try.prog.cellsOf 5 = 1 := by kernel_rfl
theorem one_21 : Try.prog.cellsOf 21 = 1 := by kernel_rfl
theorem one_41 : Try.prog.cellsOf 41 = 1 := by kernel_rfl
theorem openS43 {H : Type} {enc : TypeId × Value → H} {w : World} {t : TypeId} {a : Option Addr} {len cap : Nat} {d : DataW H} {ps : List MemPlace} (ht : Try.prog.underlying t = some (.slice 43)) (h : DataW.Trod enc Try.prog w 0 (fun _ => true) true t (.slice a len cap) d ps) :
  ∃ xs : List S43, xs.length = len ∧ len ≤ cap ∧ Kd.C k43 w a len xs ∧ (∀ x ∈ xs, okS43 x) ∧ ((d = .nil ∧ len = 0) ∨ ∃ es sp, d = .slice es sp ∧ es.length = len) := by
 obtain ⟨fuel, hf⟩ := h
 rcases Go.Deep.open_slice ht hf with ⟨hcs, hd⟩ | ⟨x, l, c, m, n, D, Pl, hcs, _, hl, hm, hmm, hd, hx⟩
 ·
  simp [Value.cells] at hcs
  obtain ⟨rfl, rfl, rfl⟩ := hcs
  simp only [Prod.mk.injEq] at hd
  exact ⟨[], rfl, Nat.le_refl _, ⟨rfl, by simp, fun h => by simp at h⟩, by simp, .inl ⟨hd.1, rfl⟩⟩
 ·
  simp [Value.cells] at hcs
  obtain ⟨rfl, rfl, rfl⟩ := hcs
  have hmc : m = cap := by simpa using hmm
  have hch : ∀ i, i < m → ∃ s : S43, (okS43 s ∧ ∀ j u, ([Value.int .u8 s.f0, Value.int .u8 s.f1, Value.int .u8 s.f2, Value.int .i16 s.f3, Value.int .i32 s.f4] : List Value)[j]? = some u → w.cell? ((x.add (i * 5)).add j) = some u) := by
   intro i hi
   obtain ⟨cs, h1, h2⟩ := hx i hi
   rw [cells_43] at h1
   obtain ⟨_, hlen, hcell⟩ := World.cells?_some h1
   obtain ⟨ys, n', _, _, _, hyl, hy⟩ := DataW.trod_struct Try.underlying43 h2
   obtain ⟨c0, c1, c2, c3, c4, rfl⟩ := list5 hlen
   have g0 := hy 0 _ rfl
   simp only [List.getElem_toArray, List.getElem_cons_zero, List.getElem_cons_succ, one_5, List.drop_zero, List.drop_succ_cons, List.take_succ_cons, List.take_zero] at g0
   rw [List.getElem?_eq_getElem (show 0 < ys.length by rw [hyl]; decide)] at g0
   obtain ⟨b0, e0, _, z0⟩ := DataW.trod_int Try.underlying5 g0
   simp only [List.cons.injEq, and_true] at e0
   subst e0
   have g1 := hy 1 _ rfl
   simp only [List.getElem_toArray, List.getElem_cons_zero, List.getElem_cons_succ, one_5, List.drop_zero, List.drop_succ_cons, List.take_succ_cons, List.take_zero] at g1
   rw [List.getElem?_eq_getElem (show 1 < ys.length by rw [hyl]; decide)] at g1
   obtain ⟨b1, e1, _, z1⟩ := DataW.trod_int Try.underlying5 g1
   simp only [List.cons.injEq, and_true] at e1
   subst e1
   have g2 := hy 2 _ rfl
   simp only [List.getElem_toArray, List.getElem_cons_zero, List.getElem_cons_succ, one_5, List.drop_zero, List.drop_succ_cons, List.take_succ_cons, List.take_zero] at g2
   rw [List.getElem?_eq_getElem (show 2 < ys.length by rw [hyl]; decide)] at g2
   obtain ⟨b2, e2, _, z2⟩ := DataW.trod_int Try.underlying5 g2
   simp only [List.cons.injEq, and_true] at e2
   subst e2
   have g3 := hy 3 _ rfl
   simp only [List.getElem_toArray, List.getElem_cons_zero, List.getElem_cons_succ, one_41, List.drop_zero, List.drop_succ_cons, List.take_succ_cons, List.take_zero] at g3
   rw [List.getElem?_eq_getElem (show 3 < ys.length by rw [hyl]; decide)] at g3
   obtain ⟨b3, e3, _, z3⟩ := DataW.trod_int Try.underlying41 g3
   simp only [List.cons.injEq, and_true] at e3
   subst e3
   have g4 := hy 4 _ rfl
   simp only [List.getElem_toArray, List.getElem_cons_zero, List.getElem_cons_succ, one_21, List.drop_zero, List.drop_succ_cons, List.take_succ_cons, List.take_zero] at g4
   rw [List.getElem?_eq_getElem (show 4 < ys.length by rw [hyl]; decide)] at g4
   obtain ⟨b4, e4, _, z4⟩ := DataW.trod_int Try.underlying21 g4
   simp only [List.cons.injEq, and_true] at e4
   subst e4
   refine ⟨⟨b0, b1, b2, b3, b4⟩, ?_, fun j u hu => ?_⟩
   ·
    unfold okS43
    have y0 := Go.bounds_u8 z0
    have y1 := Go.bounds_u8 z1
    have y2 := Go.bounds_u8 z2
    have y3 := Go.bounds_i16 z3
    have y4 := Go.bounds_i32 z4
    refine ⟨⟨by dsimp only; omega, by dsimp only; omega⟩, ⟨by dsimp only; omega, by dsimp only; omega⟩, ⟨by dsimp only; omega, by dsimp only; omega⟩, ⟨by dsimp only; omega, by dsimp only; omega⟩, ⟨by dsimp only; omega, by dsimp only; omega⟩⟩
   ·
    have hj : j < 5 := by
     rcases Nat.lt_or_ge j 5 with h | h
     ·
      exact h
     ·
      rw [List.getElem?_eq_none (by simpa using h)] at hu; cases hu
    rw [hcell j hj]
    exact hu
  obtain ⟨F, hF⟩ := Go.Deep.choose_lt' hch
  have hd := Prod.mk.inj hd
  have hcm : cap ≤ 9223372036854775807 := by simpa [maxLen] using hm
  refine ⟨(List.range len).map F, by simp, hl, ⟨by simp, by omega, fun _ => ⟨x, rfl, fun j p hp => ?_⟩⟩, fun p hp => ?_, .inr ⟨_, _, hd.1, by simp⟩⟩
  ·
   rw [List.getElem?_map] at hp
   by_cases hj : j < len
   ·
    rw [List.getElem?_range hj] at hp
    simp only [Option.map_some, Option.some.injEq] at hp
    subst hp
    refine ⟨_, ?_, k43_mk w (F j), fun i u hu => ?_⟩
    ·
     rfl
    ·
     have := (hF j (by omega)).2 i u hu
     rw [Go.Deep.add_add] at this
     exact this
   ·
    rw [List.getElem?_eq_none (by simp; omega)] at hp
    cases hp
  ·
   obtain ⟨j, hj, rfl⟩ := List.mem_map.1 hp
   exact (hF j (by have := List.mem_range.1 hj; omega)).1
def okS80 (x : S80) : Prop := ((-9223372036854775808) ≤ x.f0 ∧ x.f0 < 9223372036854775808) ∧ ((-9223372036854775808) ≤ x.f1 ∧ x.f1 < 9223372036854775808) ∧ ((-9223372036854775808) ≤ x.f2 ∧ x.f2 < 9223372036854775808) ∧ ((-9223372036854775808) ≤ x.f3 ∧ x.f3 < 9223372036854775808)
theorem cells_80 : Try.prog.cellsOf 80 = 4 := by kernel_rfl
theorem one_78 : Try.prog.cellsOf 78 = 1 := by kernel_rfl
theorem openS80 {H : Type} {enc : TypeId × Value → H} {w : World} {t : TypeId} {a : Option Addr} {len cap : Nat} {d : DataW H} {ps : List MemPlace} (ht : Try.prog.underlying t = some (.slice 80)) (h : DataW.Trod enc Try.prog w 0 (fun _ => true) true t (.slice a len cap) d ps) :
  ∃ xs : List S80, xs.length = len ∧ len ≤ cap ∧ Kd.C k80 w a len xs ∧ (∀ x ∈ xs, okS80 x) ∧ ((d = .nil ∧ len = 0) ∨ ∃ es sp, d = .slice es sp ∧ es.length = len) := by
 obtain ⟨fuel, hf⟩ := h
 rcases Go.Deep.open_slice ht hf with ⟨hcs, hd⟩ | ⟨x, l, c, m, n, D, Pl, hcs, _, hl, hm, hmm, hd, hx⟩
 ·
  simp [Value.cells] at hcs
  obtain ⟨rfl, rfl, rfl⟩ := hcs
  simp only [Prod.mk.injEq] at hd
  exact ⟨[], rfl, Nat.le_refl _, ⟨rfl, by simp, fun h => by simp at h⟩, by simp, .inl ⟨hd.1, rfl⟩⟩
 ·
  simp [Value.cells] at hcs
  obtain ⟨rfl, rfl, rfl⟩ := hcs
  have hmc : m = cap := by simpa using hmm
  have hch : ∀ i, i < m → ∃ s : S80, (okS80 s ∧ ∀ j u, ([Value.int .i64 s.f0, Value.int .i64 s.f1, Value.int .i64 s.f2, Value.int .i64 s.f3] : List Value)[j]? = some u → w.cell? ((x.add (i * 4)).add j) = some u) := by
   intro i hi
   obtain ⟨cs, h1, h2⟩ := hx i hi
   rw [cells_80] at h1
   obtain ⟨_, hlen, hcell⟩ := World.cells?_some h1
   obtain ⟨ys, n', _, _, _, hyl, hy⟩ := DataW.trod_struct Try.underlying80 h2
   obtain ⟨c0, c1, c2, c3, rfl⟩ := list4 hlen
   have g0 := hy 0 _ rfl
   simp only [List.getElem_toArray, List.getElem_cons_zero, List.getElem_cons_succ, one_78, List.drop_zero, List.drop_succ_cons, List.take_succ_cons, List.take_zero] at g0
   rw [List.getElem?_eq_getElem (show 0 < ys.length by rw [hyl]; decide)] at g0
   obtain ⟨b0, e0, _, z0⟩ := DataW.trod_int Try.underlying78 g0
   simp only [List.cons.injEq, and_true] at e0
   subst e0
   have g1 := hy 1 _ rfl
   simp only [List.getElem_toArray, List.getElem_cons_zero, List.getElem_cons_succ, one_3, List.drop_zero, List.drop_succ_cons, List.take_succ_cons, List.take_zero] at g1
   rw [List.getElem?_eq_getElem (show 1 < ys.length by rw [hyl]; decide)] at g1
   obtain ⟨b1, e1, _, z1⟩ := DataW.trod_int Try.underlying3 g1
   simp only [List.cons.injEq, and_true] at e1
   subst e1
   have g2 := hy 2 _ rfl
   simp only [List.getElem_toArray, List.getElem_cons_zero, List.getElem_cons_succ, one_3, List.drop_zero, List.drop_succ_cons, List.take_succ_cons, List.take_zero] at g2
   rw [List.getElem?_eq_getElem (show 2 < ys.length by rw [hyl]; decide)] at g2
   obtain ⟨b2, e2, _, z2⟩ := DataW.trod_int Try.underlying3 g2
   simp only [List.cons.injEq, and_true] at e2
   subst e2
   have g3 := hy 3 _ rfl
   simp only [List.getElem_toArray, List.getElem_cons_zero, List.getElem_cons_succ, one_3, List.drop_zero, List.drop_succ_cons, List.take_succ_cons, List.take_zero] at g3
   rw [List.getElem?_eq_getElem (show 3 < ys.length by rw [hyl]; decide)] at g3
   obtain ⟨b3, e3, _, z3⟩ := DataW.trod_int Try.underlying3 g3
   simp only [List.cons.injEq, and_true] at e3
   subst e3
   refine ⟨⟨b0, b1, b2, b3⟩, ?_, fun j u hu => ?_⟩
   ·
    unfold okS80
    have y0 := Go.bounds_i64 z0
    have y1 := Go.bounds_i64 z1
    have y2 := Go.bounds_i64 z2
    have y3 := Go.bounds_i64 z3
    refine ⟨⟨by dsimp only; omega, by dsimp only; omega⟩, ⟨by dsimp only; omega, by dsimp only; omega⟩, ⟨by dsimp only; omega, by dsimp only; omega⟩, ⟨by dsimp only; omega, by dsimp only; omega⟩⟩
   ·
    have hj : j < 4 := by
     rcases Nat.lt_or_ge j 4 with h | h
     ·
      exact h
     ·
      rw [List.getElem?_eq_none (by simpa using h)] at hu; cases hu
    rw [hcell j hj]
    exact hu
  obtain ⟨F, hF⟩ := Go.Deep.choose_lt' hch
  have hd := Prod.mk.inj hd
  have hcm : cap ≤ 9223372036854775807 := by simpa [maxLen] using hm
  refine ⟨(List.range len).map F, by simp, hl, ⟨by simp, by omega, fun _ => ⟨x, rfl, fun j p hp => ?_⟩⟩, fun p hp => ?_, .inr ⟨_, _, hd.1, by simp⟩⟩
  ·
   rw [List.getElem?_map] at hp
   by_cases hj : j < len
   ·
    rw [List.getElem?_range hj] at hp
    simp only [Option.map_some, Option.some.injEq] at hp
    subst hp
    refine ⟨_, ?_, k80_mk w (F j), fun i u hu => ?_⟩
    ·
     rfl
    ·
     have := (hF j (by omega)).2 i u hu
     rw [Go.Deep.add_add] at this
     exact this
   ·
    rw [List.getElem?_eq_none (by simp; omega)] at hp
    cases hp
  ·
   obtain ⟨j, hj, rfl⟩ := List.mem_map.1 hp
   exact (hF j (by have := List.mem_range.1 hj; omega)).1
theorem sizedS {H : Type} {P : Program} {t e : TypeId} {len : Nat} {d : DataW H} {ts : List TypeId} {ds : List (DataW H)} {j : Nat} {B : Nat} (hsz : (DataW.weightsEach P ts ds).all (· ≤ reachBytes) = true) (ht : ts[j]? = some t) (hd : ds[j]? = some d) (hu : P.underlying t = some (.slice e)) (hB : P.bytesOf e = B)
  (h : (d = .nil ∧ len = 0) ∨ ∃ es sp, d = .slice es sp ∧ es.length = len) : len * B ≤ 140737488351232 := by
 rcases h with ⟨_, rfl⟩ | ⟨es, sp, rfl, rfl⟩
 ·
  simp
 ·
  have z := sized_slice hsz ht hd hu
  rw [hB] at z
  have : es.length * B ≤ (es.length + sp.length) * B := Nat.mul_le_mul_right _ (by omega)
  have e : reachBytes = 140737488351232 := rfl
  omega
end Go.Proofs.Ytmijlibnembkaaa.Op
