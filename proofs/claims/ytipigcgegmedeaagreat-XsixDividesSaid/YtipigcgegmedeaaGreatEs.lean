/- The evaluator's copy; bytes as a string. -/
import Derived.Test.YtipigcgegmedeaaGreatEl
import Derived.Laws.BytesString
namespace Go.Proofs.YtipigcgegmedeaaGreat.Ev
open Go
set_option linter.unusedVariables false
set_option linter.unusedSimpArgs false
noncomputable section
variable {R : Type} {P : Program} {K : KD R} {r : R} {m : Nam} {U : Nat → Prop} {base : Nat} {h : Gt} {w : World} {o : Oper} {a : Act} {ts : List AV}

/-- Cells of a row are written anew. -/
theorem put_real (H : HR m U h w) {p : Adr} {B : Blk} {L : Loc} {vs : List AV} {xs : List Value} (hg : h p.nm = some B) (hL : m p.nm = some L) (hr : p.row < B.rows) (hc2 : p.col + vs.length ≤ B.cols.length) (hcr : CR m vs xs)
    (hone : ∀ y ∈ xs, (∀ c, y ≠ .agg c) ∧ ∀ c, y ≠ .tuple c) (hmany : ∀ q ∈ B.cols, q.many = true ∨ B.rows = 1) :
    ∃ w', (storeCells ⟨L.b, L.o + p.row * L.s + p.col, none⟩ xs).run P w = .ok () w' ∧ Tr m h w m (gset h p.nm { B with cols := putCols p.row B.cols p.col vs, st := B.st + 1 }) w' ∧ HR m U (gset h p.nm { B with cols := putCols p.row B.cols p.col vs, st := B.st + 1 }) w' := by
  obtain ⟨hl, hcr⟩ := hcr
  obtain ⟨L0, cs, e, fz, g1, g2, g3, g7, g4, g5, g6⟩ := H.live _ _ hg
  rw [hL] at g1; cases g1
  have hrow : (p.row + 1) * L.s ≤ B.rows * L.s := Nat.mul_le_mul_right _ hr
  rw [Nat.succ_mul] at hrow
  have hfit : L.o + p.row * L.s + p.col + 0 + xs.length ≤ cs.size := by rw [← hl]; omega
  have hrun := storeCells_run (P := P) L.b (L.o + p.row * L.s + p.col) e fz xs 0 cs w g3 hfit g4 hone
  obtain ⟨HH, HT⟩ := H.write (cs' := wr cs (L.o + p.row * L.s + p.col + 0) xs) { B with cols := putCols p.row B.cols p.col vs, st := B.st + 1 } hg hL g3 (wr_size _ _ _) (putCols_len _ _ _ _) rfl (by
    intro r' c' col hr' hcol
    simp only at hr' hcol
    rw [putCols_get] at hcol
    have hc'lt : c' < B.cols.length := by
      by_cases hcl : c' < B.cols.length
      · exact hcl
      · rw [List.getElem?_eq_none (by omega)] at hcol; split at hcol <;> simp at hcol
    rw [List.getElem?_eq_getElem hc'lt] at hcol
    obtain ⟨z, z1, z2, z3⟩ := g6 r' c' B.cols[c'] hr' (List.getElem?_eq_getElem hc'lt)
    rw [wr_get _ _ _ _ (by simpa using hfit)]
    by_cases hcc : p.col ≤ c' ∧ c' < p.col + vs.length
    · rw [if_pos hcc] at hcol
      have hlt : c' - p.col < vs.length := by omega
      rw [List.getElem?_eq_getElem hlt] at hcol
      simp only [Option.bind_some, Option.map_some, Option.some.injEq] at hcol
      subst hcol
      by_cases hrr : r' = p.row
      · subst hrr
        rw [if_pos (by rw [← hl]; omega), show L.o + p.row * L.s + c' - (L.o + p.row * L.s + p.col + 0) = c' - p.col by omega, List.getElem?_eq_getElem (hl ▸ hlt)]
        refine ⟨_, rfl, ?_⟩
        rw [put_at _ _ _ _ _ hr' hr (hmany _ (List.getElem_mem _)), if_pos rfl]
        exact ⟨hcr _ hlt (hl ▸ hlt), one_of (hone _ (List.getElem_mem _))⟩
      · have hno : ¬ (L.o + p.row * L.s + p.col + 0 ≤ L.o + r' * L.s + c' ∧ L.o + r' * L.s + c' < L.o + p.row * L.s + p.col + 0 + xs.length) := by
          rw [← hl]
          rintro ⟨u1, u2⟩
          rcases Nat.lt_or_ge r' p.row with hlt' | hge
          · have := Nat.mul_le_mul_right L.s (Nat.succ_le_of_lt hlt'); rw [Nat.succ_mul] at this; omega
          · have hgt : p.row < r' := by omega
            have := Nat.mul_le_mul_right L.s (Nat.succ_le_of_lt hgt); rw [Nat.succ_mul] at this; omega
        rw [if_neg hno]
        refine ⟨z, z1, ?_⟩
        rw [put_at _ _ _ _ _ hr' hr (hmany _ (List.getElem_mem _)), if_neg hrr]
        exact ⟨z2, z3⟩
    · rw [if_neg hcc] at hcol
      cases hcol
      have hno : ¬ (L.o + p.row * L.s + p.col + 0 ≤ L.o + r' * L.s + c' ∧ L.o + r' * L.s + c' < L.o + p.row * L.s + p.col + 0 + xs.length) := by
        rw [← hl]
        rintro ⟨u1, u2⟩
        rcases Nat.lt_trichotomy r' p.row with hlt' | heq | hgt
        · have := Nat.mul_le_mul_right L.s (Nat.succ_le_of_lt hlt'); rw [Nat.succ_mul] at this; omega
        · subst heq; omega
        · have := Nat.mul_le_mul_right L.s (Nat.succ_le_of_lt hgt); rw [Nat.succ_mul] at this; omega
      rw [if_neg hno]
      exact ⟨z, z1, z2, z3⟩)
  exact ⟨_, hrun, HT, HH⟩

def copyCells (g : Gt) (ie : TypeInfo) (p : Adr) (len : Nat) (B : Blk) (s : AV) (K : KD R) : Option R :=
  match s with
  | .slice q _ n _ => match g q.nm with
    | some D => bif Nat.beq ie.size 1 && Nat.blt q.row D.rows && Nat.ble (q.col + Nat.min n len) D.cols.length && Nat.blt p.row B.rows && Nat.ble (p.col + Nat.min n len) B.cols.length && (B.cols.all Col.many || Nat.beq B.rows 1) then
        K (.int .i64 (Nat.min n len)) (.put p.nm { B with cols := putCols p.row B.cols p.col (rowCells D.cols q.col (Nat.min n len) q.row), st := B.st + 1 })
      else none
    | none => none
  | _ => none
/-- Copied: whole rows, or the cells of a row. -/
def copyD (P : Program) (g : Gt) (dt : TypeId) (d s : AV) (K : KD R) : Option R :=
  match P.underlying dt with
  | some (.slice e) => match P.info? e with
    | some ie => bif Nat.ble 1 ie.size then
        match d with
        | .nils => srcE g ie.size s fun _ _ _ => K (.int .i64 0) .same
        | .eslice => srcE g ie.size s fun _ _ _ => K (.int .i64 0) .same
        | .slice p es len _ => match g p.nm with
          | some B => match Nat.beq B.cols.length ie.size with
            | false => copyCells g ie p len B s K
            | true => srcE g ie.size s fun n cols row =>
                match cols with
                | [] => K (.int .i64 0) .same
                | c0 :: cl => bif Nat.beq p.col 0 && Nat.beq (c0 :: cl).length ie.size && Nat.ble (p.row + len) B.rows then
                    K (.int .i64 (Nat.min n len)) (.put p.nm { B with cols := List.zipWith (fun c d => Col.lay p.row (Nat.min n len) row d c) B.cols (c0 :: cl), st := B.st + 1 })
                  else none
          | none => none
        | _ => none
      else none
    | none => none
  | _ => none

theorem copy_run {ats : Array TypeId} {ty dt e : TypeId} {ie : TypeInfo} {d y : Value} {base' : Option Addr} {len c n : Nat} {xs : List Value} {w w' : World} (h0 : ats[0]? = some dt) (hd : P.underlying dt = some (.slice e)) (hi : P.info? e = some ie) (he : d = .slice base' len c)
    (hn : (Builtin.lenOf y).run P w = .ok n w) (hx : (Builtin.firstCells ie.size (Nat.min n len) y).run P w = .ok xs.toArray w)
    (hs : (match base' with | some q => storeCells q xs | none => pure ()).run P w = .ok () w') :
    (Builtin.copy_ ats ty #[d, y]).run P w = .ok (goInt (Nat.min n len : Nat)) w' := by
  subst he
  cases base' with
  | none =>
    simp only [Sem.run_pure, Result.ok.injEq, true_and] at hs
    subst hs
    simp only [Builtin.copy_, h0, List.getElem?_toArray, List.getElem?_cons_zero, List.getElem?_cons_succ, Sem.run_bind, run_underlying hd, Result.andThen_ok, hn, sizeOf_run hi, hx, Sem.run_pure]
  | some q =>
    simp only at hs
    simp only [Builtin.copy_, h0, List.getElem?_toArray, List.getElem?_cons_zero, List.getElem?_cons_succ, Sem.run_bind, run_underlying hd, Result.andThen_ok, hn, sizeOf_run hi, hx, Sem.run_pure, hs]

set_option maxHeartbeats 1000000 in
theorem copy_ok (H : HR m U h w) (T : TR m ts a) {c : Go.Call} {d s : Operand} {dt : TypeId} (ho : o.op = .call c) (hb : c.callee = .builtin .copy) (ha : c.args.toList = [d, s]) (h0 : c.argTypes[0]? = some dt)
    (hk : copyD P h dt (evA ts d) (evA ts s) K = some r) : Out P K r m U base h w o a := by
  have hargs : c.args.map a.eval = #[a.eval d, a.eval s] := by
    apply Array.ext'
    simp [ha]
  have hd := T.eval d
  have hs := T.eval s
  obtain ⟨cons, hrun⟩ := builtin_run P o a c .copy ho hb w
  rw [hargs] at hrun
  have fin : ∀ {n : Nat} {w' : World}, (Builtin.copy_ c.argTypes o.type #[a.eval d, a.eval s]).run P w = .ok (goInt (n : Nat)) w' → (execOp a.eval o).run P w = .ok (.value (.int .i64 (n : Nat))) w' := by
    intro n w' hq
    rw [hrun]
    simp only [Go.builtin, Sem.run_bind, hq, Result.andThen_ok, Sem.run_pure, goInt]
  unfold copyD at hk
  split at hk
  case h_2 => cases hk
  rename_i e hu
  split at hk
  case h_2 => cases hk
  rename_i ie hi
  cases hz : Nat.ble 1 ie.size with
  | false => rw [hz] at hk; cases hk
  | true =>
  rw [hz] at hk
  simp only [cond_true] at hk
  have hz : 1 ≤ ie.size := by simpa using hz
  have none_ok : ∀ {base' : Option Addr} {cc : Nat}, a.eval d = .slice base' 0 cc → (∃ n cols row, K (.int .i64 0) .same = some r ∧ (Builtin.lenOf (a.eval s)).run P w = .ok n w ∧ ∃ xs : List Value, (∀ w' : World, w'.heap = w.heap → (Builtin.firstCells ie.size 0 (a.eval s)).run P w' = .ok xs.toArray w') ∧ SR m ie.size 0 cols row xs) → Out P K r m U base h w o a := by
    rintro base' cc ed ⟨n, cols, row, hk, hlen, xs, x1, x2⟩
    have hxe : xs = [] := List.eq_nil_of_length_eq_zero (by simpa using x2.1)
    subst hxe
    have hm : Nat.min n 0 = 0 := Nat.min_zero n
    have := copy_run (P := P) (ty := o.type) (w' := w) (xs := []) h0 hu hi ed hlen (by rw [hm]; exact x1 w rfl) (by cases base' <;> simp [storeCells])
    rw [hm] at this
    exact Out.same H hk (.int _ _) (fin this)
  split at hk
  case h_4 => cases hk
  · rename_i hdd
    rw [hdd] at hd
    obtain ⟨n, cols, row, hk, hlen, hcl, hsrc⟩ := src_real (P := P) H hs hk
    obtain ⟨xs, x1, x2⟩ := hsrc 0 (Nat.zero_le _)
    refine none_ok (base' := none) (cc := 0) ?_ ⟨n, cols, row, hk, hlen, xs, x1, x2⟩
    generalize a.eval d = y at hd
    cases hd; rfl
  · rename_i hdd
    rw [hdd] at hd
    obtain ⟨n, cols, row, hk, hlen, hcl, hsrc⟩ := src_real (P := P) H hs hk
    obtain ⟨xs, x1, x2⟩ := hsrc 0 (Nat.zero_le _)
    have : ∃ q cc, a.eval d = .slice q 0 cc := by
      generalize a.eval d = y at hd
      cases hd; exact ⟨_, _, rfl⟩
    obtain ⟨q, cc, ed⟩ := this
    exact none_ok ed ⟨n, cols, row, hk, hlen, xs, x1, x2⟩
  · rename_i p es len cap hdd
    rw [hdd] at hd
    obtain ⟨L, c', hL, hll, hcc, hnn, ed⟩ := slice_real hd
    split at hk
    case h_2 => cases hk
    rename_i B hB
    split at hk
    · -- cells of a row
      unfold copyCells at hk
      split at hk
      case h_2 => cases hk
      rename_i q qs n qc hss
      rw [hss] at hs
      split at hk
      case h_2 => cases hk
      rename_i D hD
      cases hc : (Nat.beq ie.size 1 && Nat.blt q.row D.rows && Nat.ble (q.col + Nat.min n len) D.cols.length && Nat.blt p.row B.rows && Nat.ble (p.col + Nat.min n len) B.cols.length && (B.cols.all Col.many || Nat.beq B.rows 1)) with
      | false => rw [hc] at hk; cases hk
      | true =>
      rw [hc] at hk
      simp only [cond_true] at hk
      simp only [Bool.and_eq_true] at hc
      obtain ⟨⟨⟨⟨⟨k1, k2⟩, k3⟩, k4⟩, k5⟩, k6⟩ := hc
      have k1 := Nat.eq_of_beq_eq_true k1
      have k2 : q.row < D.rows := by simpa using k2
      have k3 : q.col + Nat.min n len ≤ D.cols.length := by simpa using k3
      have k4 : p.row < B.rows := by simpa using k4
      have k5 : p.col + Nat.min n len ≤ B.cols.length := by simpa using k5
      have hmany : ∀ q ∈ B.cols, q.many = true ∨ B.rows = 1 := by
        intro q hq
        rcases Bool.or_eq_true_iff.1 k6 with h1 | h1
        · exact .inl (List.all_eq_true.1 h1 q hq)
        · exact .inr (Nat.eq_of_beq_eq_true h1)
      obtain ⟨Ls, cs', hLs, hlls, hccs, hnns, es'⟩ := slice_real hs
      obtain ⟨L0, cs, e0, fz, g1, g2, g3, g7, g4, g5, g6⟩ := H.live _ _ hD
      rw [hLs] at g1; cases g1
      obtain ⟨xs, x1, x2, x3⟩ := row_real g3 g2 g6 k2 (col := q.col) (n := Nat.min n len) k3
      have xone : ∀ y ∈ xs, (∀ c, y ≠ .agg c) ∧ ∀ c, y ≠ .tuple c := by
        intro y hy
        obtain ⟨j, hj, rfl⟩ := List.getElem_of_mem hy
        have hjn : j < Nat.min n len := by rw [x1] at hj; exact hj
        have hlt : q.col + j < D.cols.length := by omega
        obtain ⟨z, z1, z2, z3⟩ := g6 q.row (q.col + j) D.cols[q.col + j] k2 (List.getElem?_eq_getElem hlt)
        have := x3 j hj
        rw [cell_of g3, show Ls.o + q.row * Ls.s + q.col + j = Ls.o + q.row * Ls.s + (q.col + j) by omega, z1] at this
        cases this
        exact oneCell_ne z3
      have hlenr : (rowCells D.cols q.col (Nat.min n len) q.row).length = Nat.min n len := by rw [x2.1, x1]
      obtain ⟨w', s1, s2, s3⟩ := put_real (P := P) H hB hL k4 (by rw [hlenr]; exact k5) x2 xone hmany
      have hload := loadCells_run (P := P) w Ls.b (Ls.o + q.row * Ls.s + q.col) xs 0 #[] fun j hj => by simpa using x3 j hj
      have hx : (Builtin.firstCells ie.size (Nat.min n len) (a.eval s)).run P w = .ok xs.toArray w := by
        rw [es', k1]
        rw [x1] at hload
        simpa [Builtin.firstCells, loadCells] using hload
      have := copy_run (P := P) (ty := o.type) (w' := w') (xs := xs) (n := n) h0 hu hi ed (by rw [es']; simp [Builtin.lenOf]) hx s1
      exact ⟨_, _, .int .i64 (Nat.min n len : Nat), _, _, hk, (fun _ _ e => by cases e; exact ⟨_, hB, Nat.lt_succ_self _⟩), s2, s3.anti fun f g => g.1, .int _ _, .inl (fin this)⟩
    · -- whole rows
      rename_i hbq
      have hbq := Nat.eq_of_beq_eq_true hbq
      obtain ⟨n, cols, row, hk, hlen, hcl, hsrc⟩ := src_real (P := P) H hs hk
      split at hk
      · -- nothing
        have hn0 : n = 0 := by
          rcases Nat.eq_zero_or_pos n with e | e
          · exact e
          · have := hcl e; simp at this; omega
        subst hn0
        obtain ⟨xs, x1, x2⟩ := hsrc 0 (Nat.le_refl _)
        have hxe : xs = [] := List.eq_nil_of_length_eq_zero (by simpa using x2.1)
        subst hxe
        have hm : Nat.min 0 len = 0 := Nat.zero_min len
        have := copy_run (P := P) (ty := o.type) (w' := w) (xs := []) h0 hu hi ed hlen (by rw [hm]; exact x1 w rfl) (by simp [storeCells])
        rw [hm] at this
        exact Out.same H hk (.int _ _) (fin this)
      · rename_i c0 cl
        cases hc : (Nat.beq p.col 0 && Nat.beq (c0 :: cl).length ie.size && Nat.ble (p.row + len) B.rows) with
        | false => rw [hc] at hk; cases hk
        | true =>
        rw [hc] at hk
        simp only [cond_true] at hk
        simp only [Bool.and_eq_true] at hc
        have k1 := Nat.eq_of_beq_eq_true hc.1.1
        have k2 := Nat.eq_of_beq_eq_true hc.1.2
        have k3 : p.row + len ≤ B.rows := by simpa using hc.2
        obtain ⟨L0, cs, e0, fz, g1, g2, g3, g7, g4, g5, g6⟩ := H.live _ _ hB
        rw [hL] at g1; cases g1
        have hLs : L.s = ie.size := by rw [g2, hbq]
        have hmn : Nat.min n len ≤ n := Nat.min_le_left _ _
        have hml : Nat.min n len ≤ len := Nat.min_le_right _ _
        obtain ⟨xs, x1, x2⟩ := hsrc (Nat.min n len) hmn
        generalize hmin : Nat.min n len = mm at *
        have hrb : (p.row + mm) * L.s ≤ B.rows * L.s := Nat.mul_le_mul_right _ (by omega)
        rw [Nat.add_mul, hLs] at hrb
        have hx0 : L.o + p.row * L.s + p.col + 0 + xs.length ≤ cs.size := by
          rw [x2.1, k1, hLs]
          rw [hLs] at g5
          omega
        have xone : ∀ y ∈ xs, (∀ c, y ≠ .agg c) ∧ ∀ c, y ≠ .tuple c := by
          rcases Nat.eq_zero_or_pos n with e | e
          · have : xs = [] := List.eq_nil_of_length_eq_zero (by rw [x2.1, show mm = 0 by omega]; simp)
            rw [this]; intro y hy; simp at hy
          · exact x2.one (hcl e)
        have hst := storeCells_run (P := P) L.b (L.o + p.row * L.s + p.col) e0 fz xs 0 cs w g3 hx0 g4 xone
        obtain ⟨HH, HT⟩ := H.write (cs' := wr cs (L.o + p.row * L.s + p.col + 0) xs) { B with cols := List.zipWith (fun c d => Col.lay p.row mm row d c) B.cols (c0 :: cl), st := B.st + 1 } hB hL g3 (wr_size _ _ _) (by
          simp only [List.length_zipWith, k2, hbq, Nat.min_self]) rfl (by
          intro r' c col hr' hcol
          simp only at hr' hcol
          obtain ⟨ca, cb, ha', hb', rfl⟩ := zipWith_get _ _ _ _ _ hcol
          have hclt : c < ie.size := by rw [← hbq]; exact (List.getElem?_eq_some_iff.1 ha').1
          rw [wr_get _ _ _ _ (by simpa using hx0), x2.1, lay_at]
          by_cases hin : p.row ≤ r' ∧ r' < p.row + mm
          · rw [if_pos hin]
            obtain ⟨q, q1, q2, q3⟩ := x2.get (i := r' - p.row) (by omega) hb'
            have e1 : r' * ie.size = (r' - p.row) * ie.size + p.row * ie.size := by rw [← Nat.add_mul]; congr 1; omega
            have e2 := mul_row (show r' - p.row < mm by omega) hclt
            rw [hLs, k1]
            rw [if_pos (by omega), show L.o + r' * ie.size + c - (L.o + p.row * ie.size + 0 + 0) = (r' - p.row) * ie.size + c by omega]
            exact ⟨q, q1, q2, q3⟩
          · rw [if_neg hin]
            obtain ⟨q, q1, q2, q3⟩ := g6 r' c ca hr' ha'
            have hno : ¬ (L.o + p.row * L.s + p.col + 0 ≤ L.o + r' * L.s + c ∧ L.o + r' * L.s + c < L.o + p.row * L.s + p.col + 0 + mm * ie.size) := by
              rw [hLs, k1]
              rintro ⟨u1, u2⟩
              rcases Nat.lt_or_ge r' p.row with hlt | hge
              · have := mul_row hlt hclt
                omega
              · have hge2 : p.row + mm ≤ r' := by omega
                have := Nat.mul_le_mul_right ie.size hge2
                rw [Nat.add_mul] at this
                omega
            rw [if_neg hno]
            exact ⟨q, q1, q2, q3⟩)
        have := copy_run (P := P) (ty := o.type) (xs := xs) h0 hu hi ed hlen (by rw [hmin]; exact x1 w rfl) hst
        rw [hmin] at this
        exact ⟨_, _, .int .i64 (mm : Nat), _, _, hk, (fun _ _ e => by cases e; exact ⟨_, hB, Nat.lt_succ_self _⟩), HT, HH.anti fun f g => g.1, .int _ _, .inl (fin this)⟩

def AV.isU8 : AV → Bool
  | .int k _ => match k with
    | .u8 => true
    | _ => false
  | _ => false
def AV.num : AV → Int
  | .int _ n => n
  | _ => 0
theorem isU8_num {v : AV} (h : v.isU8 = true) : v = .int .u8 v.num := by
  unfold AV.isU8 at h
  split at h
  · split at h
    · rfl
    · cases h
  · cases h
/-- Bytes as a string. -/
def bstrE (P : Program) (g : Gt) (src dst : TypeId) (x : AV) (K : AV → Option R) : Option R :=
  match P.underlying src, P.underlying dst with
  | some (.slice e), some .string => match P.underlying e with
    | some (.int .u8) => match x with
      | .eslice => K (.str [])
      | .slice q _ n _ => match g q.nm with
        | some D => match D.cols with
          | [.ints .u8 f] => bif Nat.beq q.col 0 && Nat.ble (q.row + n) D.rows then K (.str ((List.range n).map fun i => UInt8.ofNat (f (i + q.row)).toNat)) else none
          | [.vals f] => bif Nat.beq q.col 0 && Nat.ble (q.row + n) D.rows && (List.range n).all (fun i => (f (i + q.row)).isU8) then K (.str ((List.range n).map fun i => UInt8.ofNat (f (i + q.row)).num.toNat)) else none
          | _ => none
        | none => none
      | _ => none
    | _ => none
  | _, _ => none
theorem push_list (ns : List Int) : ∀ (l : List UInt8), ns.foldl (fun (r : ByteArray) n => r.push (UInt8.ofNat n.toNat)) ⟨⟨l⟩⟩ = ⟨⟨l ++ ns.map fun n => UInt8.ofNat n.toNat⟩⟩ := by
  induction ns with
  | nil => intro l; simp
  | cons n ns ih =>
    intro l
    have : (ByteArray.mk ⟨l⟩).push (UInt8.ofNat n.toNat) = ⟨⟨l ++ [UInt8.ofNat n.toNat]⟩⟩ := by
      show ByteArray.mk ((Array.mk l).push _) = _
      congr 1
      exact Array.ext' (by simp)
    rw [List.foldl_cons, this, ih]
    simp
theorem bstr_ok (H : HR m U h w) (T : TR m ts a) {src dst : TypeId} {x : Operand} (ho : o.op = .convert src dst x) (hk : bstrE P h src dst (evA ts x) (fun v => K v .same) = some r) : Out P K r m U base h w o a := by
  have hx := T.eval x
  unfold bstrE at hk
  split at hk
  case h_2 => cases hk
  rename_i e hs hd
  split at hk
  case h_2 => cases hk
  rename_i he
  split at hk
  · rename_i hxx
    rw [hxx] at hx
    have : ∃ q cc, a.eval x = .slice q 0 cc := by
      generalize a.eval x = y at hx
      cases hx; exact ⟨_, _, rfl⟩
    obtain ⟨q, cc, ex⟩ := this
    refine Out.same H hk (.str []) ?_
    have hrun : (convert src dst (.slice q 0 cc)).run P w = .ok (.string ⟨⟨[]⟩⟩) w := by
      rw [run_convert_bytes_string w src dst e q 0 cc hs he hd]
      cases q with
      | none => rfl
      | some q => rw [run_bytesToString w q 0 cc [] (by simp [loadCells, loadCellsFrom])]; rfl
    simp only [execOp, ho, ex, Sem.run_bind, hrun, Result.andThen_ok, Sem.run_pure]
  · rename_i q es n cap hxx
    rw [hxx] at hx
    obtain ⟨L, c', hL, hll, hcc, hnn, ex⟩ := slice_real hx
    split at hk
    case h_2 => cases hk
    rename_i D hD
    have core : ∀ (c : Col) (f : Nat → Int), D.cols = [c] → q.col = 0 → q.row + n ≤ D.rows → (∀ i, i < n → c.at (i + q.row) = .int .u8 (f (i + q.row))) → K (.str ((List.range n).map fun i => UInt8.ofNat (f (i + q.row)).toNat)) .same = some r → Out P K r m U base h w o a := by
      intro c f hcols k1 k2 hat hk
      obtain ⟨L0, cs, e0, fz, g1, g2, g3, g7, g4, g5, g6⟩ := H.live _ _ hD
      rw [hL] at g1; cases g1
      have hLs : L.s = 1 := by rw [g2, hcols]; rfl
      obtain ⟨xs, x1, x2⟩ := flat_real g3 g2 g6 (row := q.row) (k := n) k2 P
      have hxs : xs = ((List.range n).map fun i => f (i + q.row)).map (Value.int .u8) := by
        apply List.ext_getElem?
        intro i
        by_cases hi : i < n
        · obtain ⟨z, z1, z2, _⟩ := x2.get (i := i) (c := 0) (col := c) hi (by rw [hcols]; rfl)
          rw [hLs, Nat.mul_one, Nat.add_zero] at z1
          rw [z1]
          rw [hat i hi] at z2
          have : z = .int .u8 (f (i + q.row)) := int_real z2
          subst this
          simp [hi]
        · have : xs.length ≤ i := by rw [x2.1, hLs, Nat.mul_one]; omega
          rw [List.getElem?_eq_none this, List.getElem?_eq_none (by simp; omega)]
      refine Out.same H hk (.str _) ?_
      have hload : (loadCells ⟨L.b, L.o + q.row * L.s + q.col, none⟩ n).run P w = .ok (((List.range n).map fun i => f (i + q.row)).map (Value.int .u8)).toArray w := by
        have := x1 w rfl
        rw [hLs, Nat.mul_one, Nat.mul_one] at this
        rw [k1, hLs, Nat.mul_one, Nat.add_zero, ← hxs]
        exact this
      have hrun := run_convert_bytes_string w src dst e (some ⟨L.b, L.o + q.row * L.s + q.col, none⟩) n c' hs he hd
      rw [run_bytesToString w _ n c' _ hload, show (ByteArray.empty : ByteArray) = ⟨⟨[]⟩⟩ from rfl, push_list] at hrun
      simp only [execOp, ho, ex, Sem.run_bind, hrun, Result.andThen_ok, Sem.run_pure, List.nil_append, List.map_map]
      rfl
    split at hk
    · rename_i f hcols
      cases hc : (Nat.beq q.col 0 && Nat.ble (q.row + n) D.rows) with
      | false => rw [hc] at hk; cases hk
      | true =>
      rw [hc] at hk
      simp only [cond_true] at hk
      simp only [Bool.and_eq_true] at hc
      exact core _ f hcols (Nat.eq_of_beq_eq_true hc.1) (by simpa using hc.2) (fun i hi => rfl) hk
    · rename_i f hcols
      cases hc : (Nat.beq q.col 0 && Nat.ble (q.row + n) D.rows && (List.range n).all (fun i => (f (i + q.row)).isU8)) with
      | false => rw [hc] at hk; cases hk
      | true =>
      rw [hc] at hk
      simp only [cond_true] at hk
      simp only [Bool.and_eq_true] at hc
      refine core _ (fun i => (f i).num) hcols (Nat.eq_of_beq_eq_true hc.1.1) (by simpa using hc.1.2) (fun i hi => ?_) hk
      have := List.all_eq_true.1 hc.2 i (List.mem_range.2 hi)
      exact isU8_num this
    · cases hk
  · cases hk
end
end Go.Proofs.YtipigcgegmedeaaGreat.Ev
