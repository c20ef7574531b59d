/- The evaluator's reading and writing are the model's. -/
import Derived.Test.YtipigcgegmedeaaGreatEc
namespace Go.Proofs.YtipigcgegmedeaaGreat.Ev
open Go
set_option linter.unusedVariables false
set_option linter.unusedSimpArgs false
variable {R : Type} {P : Program}

theorem addr_add (b o n : Nat) : (⟨b, o, none⟩ : Addr).add n = ⟨b, o + n, none⟩ := by
  unfold Addr.add
  split
  · subst_vars; rfl
  · rfl
theorem cell_of {w : World} {b : Nat} {cs : Array Value} {e : TypeId} {fz : Nat × Nat} (h : w.heap[b]? = some (.cells cs e fz)) (o : Nat) : w.cell? ⟨b, o, none⟩ = cs[o]? := by
  unfold World.cell?
  simp [h]
theorem loadCells_run (w : World) (b o : Nat) : ∀ (xs : List Value) (i : Nat) (acc : Array Value), (∀ j (hj : j < xs.length), w.cell? ⟨b, o + (i + j), none⟩ = some xs[j]) →
    (loadCellsFrom ⟨b, o, none⟩ i xs.length acc).run P w = .ok (acc ++ xs.toArray) w := by
  intro xs
  induction xs with
  | nil => intro i acc h; simp [loadCellsFrom]
  | cons x t ih =>
    intro i acc h
    have h0 : w.cell? ⟨b, o + i, none⟩ = some x := h 0 (by simp)
    simp only [List.length_cons, loadCellsFrom, Sem.run_bind, run_load, addr_add, h0, Result.andThen_ok]
    rw [ih (i + 1) (acc.push x) fun j hj => by
      have := h (j + 1) (by simpa using hj)
      rw [show i + 1 + j = i + (j + 1) by omega]; simpa using this]
    simp
/-- The real cells of a row's part. -/
theorem row_real {m : Nam} {w : World} {L : Loc} {B : Blk} {cs : Array Value} {e : TypeId} {fz : Nat × Nat} (hw : w.heap[L.b]? = some (.cells cs e fz)) (hs : L.s = B.cols.length)
    (h6 : ∀ r c col, r < B.rows → B.cols[c]? = some col → ∃ x, cs[L.o + r * L.s + c]? = some x ∧ VR m (col.at r) x ∧ x.oneCell' = true) {row col n : Nat} (hr : row < B.rows) (hc : col + n ≤ B.cols.length) :
    ∃ xs : List Value, xs.length = n ∧ CR m (rowCells B.cols col n row) xs ∧ ∀ j (hj : j < xs.length), w.cell? ⟨L.b, L.o + row * L.s + col + j, none⟩ = some xs[j] := by
  have key : ∀ j, j < n → ∃ x, cs[L.o + row * L.s + col + j]? = some x ∧ ∀ q, B.cols[col + j]? = some q → VR m (q.at row) x := by
    intro j hj
    have hlt : col + j < B.cols.length := by omega
    obtain ⟨x, q1, q2, _⟩ := h6 row (col + j) B.cols[col + j] hr (List.getElem?_eq_getElem hlt)
    exact ⟨x, by rw [← q1, Nat.add_assoc], fun q hq => by rw [List.getElem?_eq_getElem hlt] at hq; cases hq; exact q2⟩
  refine ⟨(List.range n).map fun j => (cs[L.o + row * L.s + col + j]?).getD undef, by simp, ⟨?_, ?_⟩, ?_⟩
  · simp [rowCells]; omega
  · intro i h h'
    simp only [List.length_map, List.length_range] at h'
    obtain ⟨x, q1, q2⟩ := key i h'
    have hlt : col + i < B.cols.length := by omega
    simp only [rowCells, List.getElem_map, List.getElem_take, List.getElem_drop, List.getElem_range, q1, Option.getD_some]
    exact q2 _ (List.getElem?_eq_getElem hlt)
  · intro j hj
    simp only [List.length_map, List.length_range] at hj
    obtain ⟨x, q1, _⟩ := key j hj
    rw [cell_of hw, q1]
    simp [q1]

theorem isAgg_run {t : TypeId} {b : Bool} (h : isAgg P t = some b) (w : World) : (Go.isAgg t).run P w = .ok b w := by
  unfold isAgg at h
  unfold Go.isAgg
  cases hu : P.underlying t with
  | none => rw [hu] at h; cases h
  | some d =>
    rw [hu] at h
    simp only [Sem.run_bind, run_underlying hu, Result.andThen_ok]
    cases d <;> simp at h ⊢ <;> subst h <;> rfl
theorem info_run {t : TypeId} {i : TypeInfo} (h : P.info? t = some i) (w : World) : (typeInfo t).run P w = .ok i w := by
  simp [typeInfo, h]
theorem sizeOf_run {t : TypeId} {i : TypeInfo} (h : P.info? t = some i) (w : World) : (Go.sizeOf t).run P w = .ok i.size w := by
  simp [Go.sizeOf, info_run h]

theorem load_sound {m U h w} (H : HR m U h w) {a : Adr} {x : Value} (hv : VR m (.ptr (some a)) x) {t : TypeId} {K : AV → Option R} {r : R} (hk : loadE P h t a K = some r) :
    ∃ v y, K v = some r ∧ VR m v y ∧ (Instr.loadAt t x).run P w = .ok y w := by
  cases hv with
  | ptr _ L hL =>
  unfold loadE at hk
  cases hg : h a.nm with
  | none => rw [hg] at hk; cases hk
  | some B =>
    rw [hg] at hk
    simp only at hk
    obtain ⟨L', cs, e, fz, g1, g2, g3, g7, g4, g5, g6⟩ := H.live _ _ hg
    rw [hL] at g1; cases g1
    cases hb : Nat.blt a.row B.rows with
    | false => rw [hb] at hk; cases hk
    | true =>
      rw [hb] at hk
      have hr : a.row < B.rows := by simpa using hb
      simp only [cond_true] at hk
      cases ha : isAgg P t with
      | none => rw [ha] at hk; cases hk
      | some ag =>
        cases hi : P.info? t with
        | none => rw [ha, hi] at hk; cases ag <;> cases hk
        | some i =>
          rw [ha, hi] at hk
          cases ag with
          | true =>
            simp only at hk
            cases hc : Nat.ble (a.col + i.size) B.cols.length with
            | false => rw [hc] at hk; cases hk
            | true =>
              rw [hc] at hk
              obtain ⟨xs, q1, q2, q3⟩ := row_real g3 g2 g6 hr (col := a.col) (n := i.size) (by simpa using hc)
              refine ⟨_, .agg ⟨xs⟩, hk, .agg _ _ q2.1 q2.2, ?_⟩
              have hl := loadCells_run (P := P) w L.b (L.o + a.row * L.s + a.col) xs 0 #[] fun j hj => by simpa using q3 j hj
              rw [q1] at hl
              simp only [Instr.loadAt, Instr.sureAddr, loadVar, loadCells, Sem.run_bind, Sem.run_pure, Result.andThen_ok, isAgg_run ha, if_true, sizeOf_run hi, hl]
              simp
          | false =>
            simp only at hk
            cases hcol : B.cols[a.col]? with
            | none => rw [hcol] at hk; cases hk
            | some c =>
              rw [hcol] at hk
              obtain ⟨y, q1, q2, _⟩ := g6 a.row a.col c hr hcol
              refine ⟨_, y, hk, q2, ?_⟩
              simp only [Instr.loadAt, Instr.sureAddr, loadVar, Sem.run_bind, Sem.run_pure, Result.andThen_ok, isAgg_run ha, Bool.false_eq_true, if_false, run_load, cell_of g3, q1]

/-- Values written one after the other. -/
def wr (cs : Array Value) (o : Nat) : List Value → Array Value
  | [] => cs
  | v :: vs => wr (cs.setIfInBounds o v) (o + 1) vs
theorem wr_size (vs : List Value) : ∀ (cs : Array Value) (o : Nat), (wr cs o vs).size = cs.size := by
  induction vs with
  | nil => intro cs o; rfl
  | cons v vs ih => intro cs o; simp [wr, ih]
theorem wr_get (vs : List Value) : ∀ (cs : Array Value) (o i : Nat), o + vs.length ≤ cs.size → (wr cs o vs)[i]? = if o ≤ i ∧ i < o + vs.length then vs[i - o]? else cs[i]? := by
  induction vs with
  | nil => intro cs o i _; rw [if_neg (by simp)]; rfl
  | cons v vs ih =>
    intro cs o i h
    simp only [List.length_cons] at h ⊢
    rw [wr, ih _ _ _ (by simpa using (by omega : o + 1 + vs.length ≤ cs.size))]
    by_cases h1 : i = o
    · subst h1
      rw [if_neg (by omega), if_pos (by omega), Array.getElem?_setIfInBounds_self_of_lt (by omega)]
      simp
    · rw [Array.getElem?_setIfInBounds_ne (by omega)]
      by_cases h2 : o + 1 ≤ i ∧ i < o + 1 + vs.length
      · rw [if_pos h2, if_pos (by omega), show i - o = (i - (o + 1)) + 1 by omega, List.getElem?_cons_succ]
      · rw [if_neg h2, if_neg (by omega)]

theorem storeCells_run (b o : Nat) (e : TypeId) (fz : Nat × Nat) : ∀ (vs : List Value) (i : Nat) (cs : Array Value) (w : World), w.heap[b]? = some (.cells cs e fz) → o + i + vs.length ≤ cs.size →
    (∀ j, j < cs.size → ¬ (fz.1 ≤ j ∧ j < fz.2)) → (∀ y ∈ vs, (∀ c, y ≠ .agg c) ∧ ∀ c, y ≠ .tuple c) →
    (storeCells ⟨b, o, none⟩ vs i).run P w = .ok () { w with heap := w.heap.setIfInBounds b (.cells (wr cs (o + i) vs) e fz) } := by
  intro vs
  induction vs with
  | nil =>
    intro i cs w hw _ _ _
    have : w.heap.setIfInBounds b (.cells cs e fz) = w.heap := by
      apply Array.ext_getElem?
      intro j
      by_cases hj : b = j
      · subst hj
        have hlt := (Array.getElem?_eq_some_iff.1 hw).1
        rw [Array.getElem?_setIfInBounds_self_of_lt hlt, hw]
      · rw [Array.getElem?_setIfInBounds_ne hj]
    simp only [storeCells, Sem.run_pure, wr, this]
  | cons v vs ih =>
    intro i cs w hw hs hf hy
    simp only [List.length_cons] at hs
    have hlt := (Array.getElem?_eq_some_iff.1 hw).1
    have ho : v.oneCell' = true := by
      have := hy v (by simp)
      cases v <;> simp_all [Value.oneCell']
    have hc : w.cell? ⟨b, o + i, none⟩ = some (cs[o + i]'(by omega)) := by rw [cell_of hw]; simp
    have hfz : w.frozen? ⟨b, o + i, none⟩ = false := by
      have := hf (o + i) (by omega)
      simp only [World.frozen?, hw]
      simpa using this
    simp only [storeCells, Sem.run_bind, addr_add, run_store P w _ _ _ ho, hc, hfz, Bool.false_eq_true, if_false, Result.andThen_ok]
    have hset : w.setCell ⟨b, o + i, none⟩ v = { w with heap := w.heap.setIfInBounds b (.cells (cs.setIfInBounds (o + i) v) e fz) } := by
      unfold World.setCell
      congr 1
      apply Array.ext_getElem?
      intro j
      simp only [Array.getElem?_modify]
      by_cases hj : b = j
      · subst hj
        rw [if_pos rfl, Array.getElem?_setIfInBounds_self_of_lt hlt, hw]
        simp
      · rw [if_neg hj, Array.getElem?_setIfInBounds_ne hj]
    rw [hset, ih (i + 1) (cs.setIfInBounds (o + i) v) _ (by rw [Array.getElem?_setIfInBounds_self_of_lt hlt]) (by simpa using (by omega : o + (i + 1) + vs.length ≤ cs.size)) (fun j hj => hf j (by simpa using hj)) fun y hm => hy y (by simp [hm])]
    simp only [wr, Array.setIfInBounds_setIfInBounds]
    rfl
end Go.Proofs.YtipigcgegmedeaaGreat.Ev
