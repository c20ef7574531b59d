/- The evaluator's operations, fourth part: lengths, append, copy, new slices. -/
import Derived.Test.YtipigcgegmedeaaGreatEg
namespace Go.Proofs.YtipigcgegmedeaaGreat.Ev
open Go
set_option linter.unusedVariables false
set_option linter.unusedSimpArgs false
noncomputable section
variable {R : Type} {P : Program} {K : KD R} {r : R} {m : Nam} {U : Nat → Prop} {base : Nat} {h : Gt} {w : World} {o : Oper} {a : Act} {ts : List AV}

/-- The parts that are put behind or copied: how many, their columns, the row of the first. -/
def srcE (g : Gt) (size : Nat) (x : AV) (K : Nat → List Col → Nat → Option R) : Option R :=
  match x with
  | .nils => K 0 [] 0
  | .eslice => K 0 [] 0
  | .str s => bif Nat.beq size 1 then K s.length [.ints .u8 fun i => (((s.getD i 0).toNat : Nat) : Int)] 0 else none
  | .slice q _ n _ => match g q.nm with
    | some D => bif Nat.beq q.col 0 && Nat.beq D.cols.length size && Nat.ble (q.row + n) D.rows then K n D.cols q.row else none
    | none => none
  | _ => none
/-- What the model reads there. -/
def SR (m : Nam) (size k : Nat) (cols : List Col) (row : Nat) (xs : List Value) : Prop :=
  xs.length = k * size ∧ ∀ i c col, i < k → cols[c]? = some col → ∃ z, xs[i * size + c]? = some z ∧ VR m (col.at (i + row)) z ∧ z.oneCell' = true
theorem flat_real {m : Nam} {w : World} {L : Loc} {B : Blk} {cs : Array Value} {e : TypeId} {fz : Nat × Nat} (hw : w.heap[L.b]? = some (.cells cs e fz)) (hs : L.s = B.cols.length)
    (h6 : ∀ r c col, r < B.rows → B.cols[c]? = some col → ∃ x, cs[L.o + r * L.s + c]? = some x ∧ VR m (col.at r) x ∧ x.oneCell' = true) {row k : Nat} (hr : row + k ≤ B.rows) (P : Program) :
    ∃ xs : List Value, (∀ w' : World, w'.heap = w.heap → (loadCells ⟨L.b, L.o + row * L.s, none⟩ (k * L.s)).run P w' = .ok xs.toArray w') ∧ SR m L.s k B.cols row xs := by
  have key : ∀ j, j < k * L.s → ∃ x, cs[L.o + row * L.s + j]? = some x := by
    intro j hj
    have h0 : 0 < L.s := by
      rcases Nat.eq_zero_or_pos L.s with e | e
      · rw [e] at hj; omega
      · exact e
    have h1 : j / L.s < k := Nat.div_lt_of_lt_mul (by rw [Nat.mul_comm]; exact hj)
    have h2 : j % L.s < L.s := Nat.mod_lt _ h0
    obtain ⟨x, q1, _⟩ := h6 (row + j / L.s) (j % L.s) (B.cols[j % L.s]'(hs ▸ h2)) (by omega) (List.getElem?_eq_getElem _)
    refine ⟨x, ?_⟩
    rw [← q1]
    congr 1
    have := Nat.div_add_mod j L.s
    rw [Nat.add_mul]
    rw [Nat.mul_comm] at this
    omega
  refine ⟨(List.range (k * L.s)).map fun j => (cs[L.o + row * L.s + j]?).getD undef, ?_, by simp, ?_⟩
  · intro w' hw'
    have := loadCells_run (P := P) w' L.b (L.o + row * L.s) ((List.range (k * L.s)).map fun j => (cs[L.o + row * L.s + j]?).getD undef) 0 #[] (fun j hj => by
      simp only [List.length_map, List.length_range] at hj
      obtain ⟨x, q1⟩ := key j hj
      rw [cell_of (by rw [hw']; exact hw), show L.o + row * L.s + (0 + j) = L.o + row * L.s + j by omega, q1]
      simp [q1])
    simpa [loadCells] using this
  · intro i c col hi hc
    have hlt := (List.getElem?_eq_some_iff.1 hc).1
    obtain ⟨x, q1, q2, q3⟩ := h6 (row + i) c col (by omega) hc
    refine ⟨x, ?_, by rw [Nat.add_comm]; exact q2, q3⟩
    have hj : i * L.s + c < k * L.s := mul_row hi (hs ▸ hlt)
    have : cs[L.o + row * L.s + (i * L.s + c)]? = some x := by rw [← q1]; congr 1; rw [Nat.add_mul]; omega
    simp [hj, this]

theorem src_real (H : HR m U h w) {x : AV} {y : Value} (hv : VR m x y) {size : Nat} {K : Nat → List Col → Nat → Option R} (hk : srcE h size x K = some r) :
    ∃ n cols row, K n cols row = some r ∧ (Builtin.lenOf y).run P w = .ok n w ∧ (0 < n → cols.length = size) ∧
      ∀ k, k ≤ n → ∃ xs : List Value, (∀ w' : World, w'.heap = w.heap → (Builtin.firstCells size k y).run P w' = .ok xs.toArray w') ∧ SR m size k cols row xs := by
  unfold srcE at hk
  split at hk
  · cases hv
    exact ⟨0, [], 0, hk, by simp [Builtin.lenOf], fun h => by omega, fun k hk => ⟨[], fun w' _ => by simp [Builtin.firstCells], by simp [Nat.le_zero.1 hk], fun i c col hi hc => by simp at hc⟩⟩
  · cases hv with
    | eslice q c =>
    refine ⟨0, [], 0, hk, by simp [Builtin.lenOf], fun h => by omega, fun k hk => ⟨[], fun w' _ => ?_, by simp [Nat.le_zero.1 hk], fun i c col hi hc => by simp at hc⟩⟩
    obtain rfl : k = 0 := by omega
    cases q <;> simp [Builtin.firstCells, loadCells, loadCellsFrom]
  · rename_i s
    rw [beq_cond] at hk
    split at hk
    · rename_i hs
      subst hs
      cases hv
      refine ⟨s.length, _, 0, hk, by simp [Builtin.lenOf, ByteArray.size], fun _ => rfl, fun k hk => ⟨(s.take k).map fun b => .int .u8 b.toNat, fun w' _ => ?_, by simp; omega, fun i c col hi hc => ?_⟩⟩
      · simp only [Builtin.firstCells, Sem.run_pure]
        congr 1
        apply Array.ext'
        simp [ByteArray.data_extract]
      · have hc0 : c = 0 := by
          rcases c with _ | c
          · rfl
          · simp at hc
        subst hc0
        simp at hc
        subst hc
        have hlt : i < s.length := by omega
        refine ⟨.int .u8 (s[i].toNat : Nat), ?_, ?_, rfl⟩
        · simp [hi, hlt, List.getElem?_take]
        · simp only [Col.at, Nat.add_zero, List.getD_eq_getElem?_getD, List.getElem?_eq_getElem hlt, Option.getD_some]
          exact .int _ _
    · cases hk
  · rename_i q es n c
    split at hk
    · rename_i D hD
      cases hc : (Nat.beq q.col 0 && Nat.beq D.cols.length size && Nat.ble (q.row + n) D.rows) with
      | false => rw [hc] at hk; cases hk
      | true =>
        rw [hc] at hk
        simp only [cond_true] at hk
        simp only [Bool.and_eq_true] at hc
        have c1 := Nat.eq_of_beq_eq_true hc.1.1
        have c2 := Nat.eq_of_beq_eq_true hc.1.2
        have c3 : q.row + n ≤ D.rows := by simpa using hc.2
        obtain ⟨L, c', hL, hll, hcc, hnn, ex⟩ := slice_real hv
        obtain ⟨L0, cs, e0, fz, g1, g2, g3, g7, g4, g5, g6⟩ := H.live _ _ hD
        rw [hL] at g1; cases g1
        have hsz : L.s = size := by rw [g2, c2]
        subst hsz
        subst ex
        refine ⟨n, D.cols, q.row, hk, by simp [Builtin.lenOf], fun _ => g2.symm, fun k hk => ?_⟩
        obtain ⟨xs, x1, x2⟩ := flat_real g3 g2 g6 (row := q.row) (k := k) (by omega) P
        refine ⟨xs, fun w' hw' => ?_, x2⟩
        have := x1 w' hw'
        simpa [Builtin.firstCells, c1] using this
    · cases hk
  · cases hk

theorem HR.kill (H : HR m U h w) (n : Nm) : HR m U (gkill h n) w ∧ Tr m h w m (gkill h n) w := by
  have hget : ∀ k B, gkill h n k = some B → h k = some B := by
    intro k B hk
    rw [gget_kill] at hk
    split at hk
    · cases hk
    · exact hk
  exact ⟨⟨fun k B hk => H.live k B (hget k B hk), fun k k' B B' L L' a b c d e => H.inj k k' B B' L L' (hget _ _ a) (hget _ _ b) c d e, H.bound⟩,
    ⟨m.le_refl, Nat.le_refl _, fun _ _ _ => rfl, fun k B L a b c => ⟨k, B, L, hget _ _ a, b, rfl⟩, rfl, rfl, rfl⟩⟩
/-- A block's name is given up for a new one, and its cells are written. -/
theorem HR.reuse (H : HR m U h w) (hU : U base) {n : Nm} {B : Blk} {L : Loc} {cs cs' : Array Value} {e : TypeId} {fz : Nat × Nat} (B' : Blk) (o' : Nat) (hn : h n = some B) (hm : m n = some L) (hw : w.heap[L.b]? = some (.cells cs e fz))
    (hs : cs'.size = cs.size) (hr : o' + B'.rows * B'.cols.length ≤ cs.size)
    (hc : ∀ r c col, r < B'.rows → B'.cols[c]? = some col → ∃ x, cs'[o' + r * B'.cols.length + c]? = some x ∧ VR m (col.at r) x ∧ x.oneCell' = true) :
    HR (m.put ⟨base, 0⟩ ⟨L.b, o', B'.cols.length, L.n⟩) (fun f => U f ∧ f ≠ base) (gadd (gkill h n) base B') { w with heap := w.heap.setIfInBounds L.b (.cells cs' e fz) } ∧
      Tr m h w (m.put ⟨base, 0⟩ ⟨L.b, o', B'.cols.length, L.n⟩) (gadd (gkill h n) base B') { w with heap := w.heap.setIfInBounds L.b (.cells cs' e fz) } := by
  have hle : m.le (m.put ⟨base, 0⟩ ⟨L.b, o', B'.cols.length, L.n⟩) := Nam.put_le (H.fresh hU 0)
  have hput : ∀ k K, m.put ⟨base, 0⟩ ⟨L.b, o', B'.cols.length, L.n⟩ k = some K → (k = ⟨base, 0⟩ ∧ K = ⟨L.b, o', B'.cols.length, L.n⟩) ∨ m k = some K := by
    intro k K hk
    unfold Nam.put at hk
    split at hk
    · exact .inl ⟨by assumption, by cases hk; rfl⟩
    · exact .inr hk
  have hget : ∀ k Bk, gadd (gkill h n) base B' k = some Bk → (k = ⟨base, 0⟩ ∧ Bk = B') ∨ (k ≠ n ∧ h k = some Bk) := by
    intro k Bk hk
    rw [gget_add] at hk
    split at hk
    · split at hk
      · cases hk; exact .inl ⟨nm_ext (by assumption) (by assumption), rfl⟩
      · cases hk
    · rw [gget_kill] at hk
      split at hk
      · cases hk
      · exact .inr ⟨by assumption, hk⟩
  obtain ⟨L1, cs1, e1, fz1, a1, a2, a3, a7, a4, a5, a6⟩ := H.live n B hn
  rw [hm] at a1; cases a1
  rw [hw] at a3; cases a3
  have hlt : L.b < w.heap.size := (H.bound n L hm).1
  have hother : ∀ k Bk Lk, k ≠ n → h k = some Bk → m k = some Lk → Lk.b ≠ L.b := fun k Bk Lk hne hg hLk eb => hne (H.inj k n Bk B Lk L hg hn hLk hm eb)
  refine ⟨⟨fun k Bk hk => ?_, fun k k' Bk Bk' Lk Lk' x1 x2 x3 x4 x5 => ?_, fun k Lk hk => ?_⟩, ⟨hle, by simp, fun b hb hno => ?_, fun k Bk Lk x1 x2 x3 => ?_, rfl, rfl, rfl⟩⟩
  · rcases hget k Bk hk with ⟨rfl, rfl⟩ | ⟨hne, hg⟩
    · refine ⟨⟨L.b, o', Bk.cols.length, L.n⟩, cs', e, fz, by simp [Nam.put], rfl, by simp [hlt], by rw [hs]; exact a7, fun i hi => a4 i (hs ▸ hi), by rw [hs]; exact hr, fun r' c col q1 q2 => ?_⟩
      obtain ⟨x, y1, y2, y3⟩ := hc r' c col q1 q2
      exact ⟨x, y1, y2.mono hle, y3⟩
    · refine (H.live k Bk hg).mono hle fun Lk hLk => ?_
      have := hother k Bk Lk hne hg hLk
      simp [Array.getElem?_setIfInBounds_ne (Ne.symm this)]
  · rcases hput k Lk x3 with ⟨rfl, rfl⟩ | m1 <;> rcases hput k' Lk' x4 with ⟨rfl, rfl⟩ | m2
    · rfl
    · rcases hget k' Bk' x2 with ⟨rfl, _⟩ | ⟨hne, hg⟩
      · rfl
      · exact absurd x5.symm (hother k' Bk' Lk' hne hg m2)
    · rcases hget k Bk x1 with ⟨rfl, _⟩ | ⟨hne, hg⟩
      · rfl
      · exact absurd x5 (hother k Bk Lk hne hg m1)
    · rcases hget k Bk x1 with ⟨rfl, _⟩ | ⟨hne, hg⟩
      · rw [H.fresh hU] at m1; cases m1
      · rcases hget k' Bk' x2 with ⟨rfl, _⟩ | ⟨hne', hg'⟩
        · rw [H.fresh hU] at m2; cases m2
        · exact H.inj k k' Bk Bk' Lk Lk' hg hg' m1 m2 x5
  · rcases hput k Lk hk with ⟨rfl, rfl⟩ | m1
    · simpa using hlt
    · have := H.bound k Lk m1
      exact ⟨by simpa using this.1, fun u => this.2 u.1⟩
  · have : L.b ≠ b := hno n B L hn hm
    simp [Array.getElem?_setIfInBounds_ne this]
  · rcases hput k Lk x2 with ⟨rfl, rfl⟩ | m1
    · exact ⟨n, B, L, hn, hm, rfl⟩
    · rcases hget k Bk x1 with ⟨rfl, _⟩ | ⟨_, q⟩
      · rw [H.fresh hU] at m1; cases m1
      · exact ⟨k, Bk, Lk, q, m1, rfl⟩

theorem lay_at (lo n s : Nat) (d c : Col) (i : Nat) : (Col.lay lo n s d c).at i = if lo ≤ i ∧ i < lo + n then d.at (i - lo + s) else c.at i := by
  have hb : ∀ {α : Type} (x y : α), (bif Nat.ble lo i && Nat.blt i (lo + n) then x else y) = if lo ≤ i ∧ i < lo + n then x else y := by
    intro α x y
    by_cases h : lo ≤ i ∧ i < lo + n
    · rw [if_pos h, show (Nat.ble lo i && Nat.blt i (lo + n)) = true by simp [h.1, h.2]]; rfl
    · rw [if_neg h]
      cases hq : (Nat.ble lo i && Nat.blt i (lo + n)) with
      | false => rfl
      | true => simp at hq; exact absurd hq h
  cases c with
  | ints k f => cases d with
    | ints k' g =>
      by_cases hk : k = k'
      · subst hk; simp only [Col.lay, if_true, Col.at, hb]; split <;> rfl
      · simp only [Col.lay, if_neg hk, Col.at, hb]
    | _ => simp only [Col.lay, Col.at, hb]
  | bools f => cases d with
    | bools g => simp only [Col.lay, Col.at, hb]; split <;> rfl
    | _ => simp only [Col.lay, Col.at, hb]
  | vals f => cases d <;> simp only [Col.lay, Col.at, hb]
  | one f => cases d <;> simp only [Col.lay, Col.at, hb]
theorem join_at (n r s : Nat) (c d : Col) (i : Nat) : (Col.join n r s c d).at i = if i < n then c.at (i + r) else d.at (i - n + s) := by
  have hb : ∀ {α : Type} (x y : α), (bif Nat.blt i n then x else y) = if i < n then x else y := by
    intro α x y
    by_cases h : i < n
    · rw [if_pos h, show Nat.blt i n = true by simpa using h]; rfl
    · rw [if_neg h]
      cases hq : Nat.blt i n with
      | false => rfl
      | true => simp at hq; exact absurd hq h
  cases c with
  | ints k f => cases d with
    | ints k' g =>
      by_cases hk : k = k'
      · subst hk; simp only [Col.join, if_true, Col.at, hb]; split <;> rfl
      · simp only [Col.join, if_neg hk, Col.at, hb]
    | _ => simp only [Col.join, Col.at, hb]
  | bools f => cases d with
    | bools g => simp only [Col.join, Col.at, hb]; split <;> rfl
    | _ => simp only [Col.join, Col.at, hb]
  | vals f => cases d <;> simp only [Col.join, Col.at, hb]
  | one f => cases d <;> simp only [Col.join, Col.at, hb]

theorem SR.get {m : Nam} {size k : Nat} {cols : List Col} {row : Nat} {xs : List Value} (h : SR m size k cols row xs) {i c : Nat} {col : Col} (hi : i < k) (hc : cols[c]? = some col) :
    ∃ z, xs[i * size + c]? = some z ∧ VR m (col.at (i + row)) z ∧ z.oneCell' = true := h.2 i c col hi hc
theorem SR.one {m : Nam} {size k : Nat} {cols : List Col} {row : Nat} {xs : List Value} (h : SR m size k cols row xs) (hl : cols.length = size) : ∀ y ∈ xs, (∀ c, y ≠ .agg c) ∧ ∀ c, y ≠ .tuple c := by
  intro y hy
  obtain ⟨j, hj, rfl⟩ := List.getElem_of_mem hy
  rw [h.1] at hj
  have h0 : 0 < size := by
    rcases Nat.eq_zero_or_pos size with e | e
    · rw [e] at hj; omega
    · exact e
  have h1 : j / size < k := Nat.div_lt_of_lt_mul (by rw [Nat.mul_comm]; exact hj)
  have h2 : j % size < cols.length := by rw [hl]; exact Nat.mod_lt _ h0
  obtain ⟨z, q1, q2, q3⟩ := h.2 (j / size) (j % size) cols[j % size] h1 (List.getElem?_eq_getElem h2)
  have he : j / size * size + j % size = j := by rw [Nat.mul_comm]; exact Nat.div_add_mod j size
  rw [he] at q1
  have := (List.getElem?_eq_some_iff.1 q1).2
  rw [this]
  exact oneCell_ne q3
theorem grow_le (need : Nat) : ∀ (n c : Nat), c < need → Builtin.growBy need n c ≤ 2 * need + 512 := by
  intro n
  induction n with
  | zero => intro c h; simp only [Builtin.growBy]; omega
  | succ n ih =>
    intro c h
    simp only [Builtin.growBy]
    rw [if_neg (by omega)]
    by_cases h2 : c + (c + 768) / 4 < need
    · exact ih _ h2
    · cases n with
      | zero => simp only [Builtin.growBy]; omega
      | succ n => simp only [Builtin.growBy]; rw [if_pos (by omega)]; omega
theorem nextcap_le {need cap : Nat} (h : cap < need) : Builtin.nextslicecap need cap ≤ 2 * need + 512 := by
  unfold Builtin.nextslicecap
  split
  · omega
  · split
    · omega
    · exact grow_le _ _ _ h
end
end Go.Proofs.YtipigcgegmedeaaGreat.Ev
