/- The evaluator's operations, first part: each does what the model's does. -/
import Derived.Test.YtipigcgegmedeaaGreatEd
namespace Go.Proofs.YtipigcgegmedeaaGreat.Ev
open Go
set_option linter.unusedVariables false
set_option linter.unusedSimpArgs false
noncomputable section
variable {R : Type} {P : Program}

def TR (m : Nam) (ts : List AV) (a : Act) : Prop := ts.length = a.tmps.size ∧ ∀ i (h : i < ts.length) (h' : i < a.tmps.size), VR m ts[i] a.tmps[i]
theorem TR.mono {m m' : Nam} (hm : m.le m') {ts a} (h : TR m ts a) : TR m' ts a := ⟨h.1, fun i x y => (h.2 i x y).mono hm⟩
theorem nth_eq : ∀ (ts : List AV) (i : Nat), nth ts i = (ts[i]?).getD .undef
  | [], i => by simp [nth_nil, nth_zero, nth_succ]
  | v :: t, 0 => by simp [nth_nil, nth_zero, nth_succ]
  | v :: t, i + 1 => by simp [nth_nil, nth_zero, nth_succ, nth_eq t i]
theorem putAt_len : ∀ (ts : List AV) (i : Nat) (v : AV), (putAt ts i v).length = ts.length
  | [], i, v => rfl
  | x :: t, 0, v => rfl
  | x :: t, i + 1, v => by simp [putAt_nil, putAt_zero, putAt_succ, putAt_len t i v]
theorem putAt_get : ∀ (ts : List AV) (i : Nat) (v : AV) (j : Nat) (h : j < (putAt ts i v).length), (putAt ts i v)[j] = if i = j then v else ts[j]'(by rw [putAt_len] at h; exact h)
  | [], i, v, j, h => by simp [putAt_nil, putAt_zero, putAt_succ] at h
  | x :: t, 0, v, 0, h => by simp [putAt_nil, putAt_zero, putAt_succ]
  | x :: t, 0, v, j + 1, h => by simp [putAt_nil, putAt_zero, putAt_succ]
  | x :: t, i + 1, v, 0, h => by simp [putAt_nil, putAt_zero, putAt_succ]
  | x :: t, i + 1, v, j + 1, h => by
    have := putAt_get t i v j (by simpa [putAt_nil, putAt_zero, putAt_succ] using h)
    simp only [putAt_nil, putAt_zero, putAt_succ, List.getElem_cons_succ, this, Nat.add_right_cancel_iff]
theorem TR.put {m : Nam} {ts : List AV} {a : Act} (h : TR m ts a) {v : AV} {y : Value} (hv : VR m v y) (d : Option Tmp) : TR m (putD ts d v) (a.put d y) := by
  cases d with
  | none => exact h
  | some d =>
    refine ⟨by simp [putD, putAt_len, Act.put, h.1], fun i h1 h2 => ?_⟩
    simp only [putD, Act.put] at h1 h2 ⊢
    rw [putAt_get, Array.getElem_setIfInBounds]
    by_cases e : d = i
    · subst e; simp [hv]
    · simp only [if_neg e]
      exact h.2 i (by rw [putAt_len] at h1; exact h1) (by simpa using h2)
theorem TR.eval {m : Nam} {ts : List AV} {a : Act} (h : TR m ts a) (x : Operand) : VR m (evA ts x) (a.eval x) := by
  cases x with
  | tmp t =>
    simp only [evA, nth_eq, Act.eval]
    by_cases ht : t < ts.length
    · rw [List.getElem?_eq_getElem ht]
      have := h.2 t ht (h.1 ▸ ht)
      simpa [Array.getD, h.1 ▸ ht] using this
    · rw [List.getElem?_eq_none (Nat.le_of_not_lt ht)]; exact .undef _
  | const v => exact VR_ofV m 3 v
  | global g => exact .undef _
  | func f => exact .func f

abbrev KD (R : Type) := AV → Dl → Option R
/-- The families that are free behind an operation. -/
def Dl.left (U : Nat → Prop) (base : Nat) (d : Dl) : Nat → Prop := fun f => U f ∧ (d.nxt base = base + 1 → f ≠ base)
/-- What is written over is there. -/
def Fits (h : Gt) (d : Dl) : Prop := ∀ n B, d = .put n B → ∃ B0, h n = some B0 ∧ B0.st < B.st
/-- An operation has come to a value (or to none, and goes on). -/
def Out (P : Program) (K : KD R) (r : R) (m : Nam) (U : Nat → Prop) (base : Nat) (h : Gt) (w : World) (o : Oper) (a : Act) : Prop :=
  ∃ v d y m' w', K v d = some r ∧ Fits h d ∧ Tr m h w m' (d.on base h) w' ∧ HR m' (d.left U base) (d.on base h) w' ∧ VR m' v y ∧ ((execOp a.eval o).run P w = .ok (.value y) w' ∨ ((execOp a.eval o).run P w = .ok .skip w' ∧ y = undef))
theorem Out.same {K : KD R} {r : R} {m : Nam} {U : Nat → Prop} {base : Nat} {h : Gt} {w : World} {o : Oper} {a : Act} (H : HR m U h w) {v : AV} {y : Value} (hk : K v .same = some r) (hv : VR m v y)
    (hr : (execOp a.eval o).run P w = .ok (.value y) w) : Out P K r m U base h w o a := ⟨v, .same, y, m, w, hk, (fun _ _ e => by cases e), Tr.refl m h w, H.anti fun f g => g.1, hv, .inl hr⟩

theorem plain_sound {K : KD R} {r : R} {m : Nam} {U : Nat → Prop} {base : Nat} {h : Gt} {w : World} {o : Oper} {a : Act} (H : HR m U h w) {ts : List AV} (T : TR m ts a)
    (hk : plainE P ts o (fun v => K v .same) = some r) : Out P K r m U base h w o a := by
  have hsel : ∀ cs b, o.op ≠ .select cs b := by
    intro cs b e
    unfold plainE at hk
    rw [e] at hk; cases hk
  have hk' : (bif o.op.operands.toList.all (fun x => (toV 3 (evA ts x)).isSome) then
      match semE P (execOp (fun x => (toV 3 (evA ts x)).getD undef) o) with
      | some (.value v) => K (ofV 3 v) .same
      | _ => none
    else none) = some r := by
    unfold plainE at hk
    split at hk
    · cases hk
    · exact hk
  clear hk
  cases hall : o.op.operands.toList.all (fun x => (toV 3 (evA ts x)).isSome) with
  | false => rw [hall] at hk'; cases hk'
  | true =>
    rw [hall] at hk'
    simp only [cond_true] at hk'
    have he : execOp a.eval o = execOp (fun x => (toV 3 (evA ts x)).getD undef) o := by
      refine execOp_congr o hsel fun x hx => ?_
      have := List.all_eq_true.1 hall x (by simpa using hx)
      obtain ⟨y, hy⟩ := Option.isSome_iff_exists.1 this
      rw [hy]
      exact toV_eq 3 _ y _ hy (T.eval x)
    split at hk'
    · rename_i v hs
      refine Out.same H hk' (VR_ofV m 3 v) ?_
      rw [he]
      exact semE_run _ _ w hs
    · cases hk'

theorem load_ok {K : KD R} {r : R} {m : Nam} {U : Nat → Prop} {base : Nat} {h : Gt} {w : World} {o : Oper} {a : Act} (H : HR m U h w) {ts : List AV} (T : TR m ts a) {t : TypeId} {x : Operand} (ho : o.op = .load t x) {p : Adr}
    (hp : evA ts x = .ptr (some p)) (hk : loadE P h t p (fun v => K v .same) = some r) : Out P K r m U base h w o a := by
  obtain ⟨v, y, q1, q2, q3⟩ := load_sound H (hp ▸ T.eval x) hk
  exact Out.same H q1 q2 (by simp [execOp, ho, q3])

theorem lone_cells {m : Nam} {v : AV} {y : Value} (hv : VR m v y) (hl : v.cells.all AV.lone = true) : CR m v.cells y.cells.toList ∧ ∀ z ∈ y.cells.toList, (∀ c, z ≠ .agg c) ∧ ∀ c, z ≠ .tuple c :=
  hv.cells fun a ha => List.all_eq_true.1 hl a ha

theorem const_at (v : AV) (i : Nat) : (Col.const v).at i = v := by cases v <;> rfl
theorem put_at (rows row : Nat) (v : AV) (c : Col) (i : Nat) (hi : i < rows) (hr : row < rows) (hc : c.many = true ∨ rows = 1) : (Col.put row v c).at i = if i = row then v else c.at i := by
  cases c with
  | one w =>
    have : rows = 1 := by rcases hc with h | h; cases h; exact h
    rw [if_pos (by omega)]
    cases v <;> rfl
  | ints k f =>
    cases v with
    | int k' n =>
      by_cases hk : k = k'
      · subst hk; simp only [Col.put, if_true, Col.at, beq_cond]; split <;> rfl
      · simp only [Col.put, if_neg hk, Col.at, beq_cond]
    | _ => simp only [Col.put, Col.at, beq_cond]
  | bools f =>
    cases v with
    | bool b => simp only [Col.put, Col.at, beq_cond]; split <;> rfl
    | _ => simp only [Col.put, Col.at, beq_cond]
  | vals f => cases v <;> simp only [Col.put, Col.at, beq_cond]
theorem putCols_len (row : Nat) : ∀ (cols : List Col) (c : Nat) (vs : List AV), (putCols row cols c vs).length = cols.length
  | [], c, vs => by cases c <;> cases vs <;> rfl
  | c :: t, 0, [] => rfl
  | c :: t, 0, v :: vs => by simp [putCols, putCols_len row t 0 vs]
  | c :: t, n + 1, vs => by simp [putCols, putCols_len row t n vs]
theorem putCols_get (row : Nat) : ∀ (cols : List Col) (c : Nat) (vs : List AV) (i : Nat), (putCols row cols c vs)[i]? = if c ≤ i ∧ i < c + vs.length then (cols[i]?).bind (fun q => (vs[i - c]?).map fun v => q.put row v) else cols[i]?
  | [], c, vs, i => by cases c <;> cases vs <;> simp [putCols]
  | q :: t, 0, [], i => by rw [if_neg (by simp)]; rfl
  | q :: t, 0, v :: vs, 0 => by simp [putCols]
  | q :: t, 0, v :: vs, i + 1 => by
    simp only [putCols, List.getElem?_cons_succ, putCols_get row t 0 vs i]
    by_cases h : i < vs.length
    · rw [if_pos (by omega), if_pos (by simp; omega)]; simp
    · rw [if_neg (by omega), if_neg (by simp; omega)]
  | q :: t, n + 1, vs, 0 => by rw [if_neg (by omega)]; rfl
  | q :: t, n + 1, vs, i + 1 => by
    simp only [putCols, List.getElem?_cons_succ, putCols_get row t n vs i]
    by_cases h : n ≤ i ∧ i < n + vs.length
    · rw [if_pos h, if_pos (by omega), show i + 1 - (n + 1) = i - n by omega]
    · rw [if_neg h, if_neg (by omega)]

theorem row_inj {r c r' c' s : Nat} (hc : c < s) (hc' : c' < s) (h : r * s + c = r' * s + c') : r = r' ∧ c = c' := by
  have hs : 0 < s := by omega
  have h1 : (r * s + c) / s = r := by rw [Nat.mul_comm, Nat.mul_add_div hs, Nat.div_eq_of_lt hc, Nat.add_zero]
  have h2 : (r' * s + c') / s = r' := by rw [Nat.mul_comm, Nat.mul_add_div hs, Nat.div_eq_of_lt hc', Nat.add_zero]
  have : r = r' := by rw [← h1, h, h2]
  subst this
  exact ⟨rfl, by omega⟩

theorem one_of {y : Value} (h : (∀ c, y ≠ .agg c) ∧ ∀ c, y ≠ .tuple c) : y.oneCell' = true := by
  cases y <;> first | rfl | exact absurd rfl (h.1 _) | exact absurd rfl (h.2 _)
theorem store_ok {K : KD R} {r : R} {m : Nam} {U : Nat → Prop} {base : Nat} {h : Gt} {w : World} {o : Oper} {a : Act} (H : HR m U h w) {ts : List AV} (T : TR m ts a) {t : TypeId} {x y : Operand} (ho : o.op = .store t x y) {p : Adr}
    (hp : evA ts x = .ptr (some p)) (hk : storeE P h t p (evA ts y) (fun d => K (.tuple []) d) = some r) : Out P K r m U base h w o a := by
  have hv := T.eval x
  rw [hp] at hv
  generalize a.eval x = ax at hv
  generalize hxx : a.eval x = axx
  have hvy := T.eval y
  unfold storeE at hk
  cases hg : h p.nm with
  | none => rw [hg] at hk; cases hk
  | some B =>
    rw [hg] at hk
    simp only at hk
    cases hb : Nat.blt p.row B.rows with
    | false => rw [hb] at hk; cases hk
    | true =>
      rw [hb] at hk
      have hr : p.row < B.rows := by simpa using hb
      simp only [cond_true] at hk
      cases hc : (Nat.beq (evA ts y).cells.length (P.cellsOf t) && Nat.ble (p.col + (evA ts y).cells.length) B.cols.length && (evA ts y).cells.all AV.lone && (P.info? t).isSome && (B.cols.all Col.many || Nat.beq B.rows 1)) with
      | false => rw [hc] at hk; cases hk
      | true =>
        rw [hc] at hk
        simp only [cond_true] at hk
        simp only [Bool.and_eq_true] at hc
        obtain ⟨⟨⟨⟨hc1, hc2⟩, hc3⟩, hc4⟩, hc5⟩ := hc
        have hmany : ∀ q ∈ B.cols, q.many = true ∨ B.rows = 1 := by
          intro q hq
          rcases Bool.or_eq_true_iff.1 hc5 with h1 | h1
          · exact .inl (List.all_eq_true.1 h1 q hq)
          · exact .inr (Nat.eq_of_beq_eq_true h1)
        have hc1 := Nat.eq_of_beq_eq_true hc1
        have hc2 : p.col + (evA ts y).cells.length ≤ B.cols.length := by simpa using hc2
        obtain ⟨i, hi⟩ := Option.isSome_iff_exists.1 hc4
        obtain ⟨⟨hl, hcr⟩, hone⟩ := lone_cells hvy hc3
        obtain ⟨L, cs, e, fz, g1, g2, g3, g7, g4, g5, g6⟩ := H.live _ _ hg
        have hrow : (p.row + 1) * L.s ≤ B.rows * L.s := Nat.mul_le_mul_right _ hr
        rw [Nat.succ_mul] at hrow
        have hfit : L.o + p.row * L.s + p.col + 0 + (a.eval y).cells.toList.length ≤ cs.size := by rw [← hl]; omega
        have hrun := storeCells_run (P := P) L.b (L.o + p.row * L.s + p.col) e fz (a.eval y).cells.toList 0 cs w g3 hfit g4 hone
        obtain ⟨HH, HT⟩ := H.write (cs' := wr cs (L.o + p.row * L.s + p.col + 0) (a.eval y).cells.toList) { B with cols := putCols p.row B.cols p.col (evA ts y).cells, st := B.st + 1 } hg g1 g3 (wr_size _ _ _) (putCols_len _ _ _ _) rfl (by
          intro r' c' col hr' hcol
          simp only at hr' hcol
          rw [putCols_get] at hcol
          have hc'lt : c' < B.cols.length := by
            by_cases hcl : c' < B.cols.length
            · exact hcl
            · rw [List.getElem?_eq_none (by omega)] at hcol; split at hcol <;> simp at hcol
          rw [List.getElem?_eq_getElem hc'lt] at hcol
          obtain ⟨z, z1, z2, z3⟩ := g6 r' c' B.cols[c'] hr' (List.getElem?_eq_getElem hc'lt)
          rw [wr_get _ _ _ _ (by simpa using hfit)]
          by_cases hcc : p.col ≤ c' ∧ c' < p.col + (evA ts y).cells.length
          · rw [if_pos hcc] at hcol
            have hlt : c' - p.col < (evA ts y).cells.length := by omega
            rw [List.getElem?_eq_getElem hlt] at hcol
            simp only [Option.bind_some, Option.map_some, Option.some.injEq] at hcol
            subst hcol
            by_cases hrr : r' = p.row
            · subst hrr
              rw [if_pos (by rw [← hl]; omega), show L.o + p.row * L.s + c' - (L.o + p.row * L.s + p.col + 0) = c' - p.col by omega, List.getElem?_eq_getElem (hl ▸ hlt)]
              refine ⟨_, rfl, ?_⟩
              rw [put_at _ _ _ _ _ hr' hr (hmany _ (List.getElem_mem _)), if_pos rfl]
              exact ⟨hcr _ hlt (hl ▸ hlt), one_of (hone _ (List.getElem_mem _))⟩
            · have hno : ¬ (L.o + p.row * L.s + p.col + 0 ≤ L.o + r' * L.s + c' ∧ L.o + r' * L.s + c' < L.o + p.row * L.s + p.col + 0 + (a.eval y).cells.toList.length) := by
                rw [← hl]
                rintro ⟨u1, u2⟩
                rcases Nat.lt_or_ge r' p.row with hlt' | hge
                · have := Nat.mul_le_mul_right L.s (Nat.succ_le_of_lt hlt'); rw [Nat.succ_mul] at this; omega
                · have hgt : p.row < r' := by omega
                  have := Nat.mul_le_mul_right L.s (Nat.succ_le_of_lt hgt); rw [Nat.succ_mul] at this; omega
              rw [if_neg hno]
              refine ⟨z, z1, ?_⟩
              rw [put_at _ _ _ _ _ hr' hr (hmany _ (List.getElem_mem _)), if_neg hrr]
              exact ⟨z2, z3⟩
          · rw [if_neg hcc] at hcol
            cases hcol
            have hno : ¬ (L.o + p.row * L.s + p.col + 0 ≤ L.o + r' * L.s + c' ∧ L.o + r' * L.s + c' < L.o + p.row * L.s + p.col + 0 + (a.eval y).cells.toList.length) := by
              rw [← hl]
              rintro ⟨u1, u2⟩
              rcases Nat.lt_trichotomy r' p.row with hlt' | heq | hgt
              · have := Nat.mul_le_mul_right L.s (Nat.succ_le_of_lt hlt'); rw [Nat.succ_mul] at this; omega
              · subst heq; omega
              · have := Nat.mul_le_mul_right L.s (Nat.succ_le_of_lt hgt); rw [Nat.succ_mul] at this; omega
            rw [if_neg hno]
            exact ⟨z, z1, z2, z3⟩)
        refine ⟨.tuple [], _, undef, _, _, hk, (fun _ _ e => by cases e; exact ⟨_, hg, Nat.lt_succ_self _⟩), HT, HH.anti fun f g => g.1, .tuple [] [] rfl (fun i h => by simp at h), .inr ⟨?_, rfl⟩⟩
        have hax : a.eval x = .pointer (some ⟨L.b, L.o + p.row * L.s + p.col, none⟩) := by
          have := T.eval x
          rw [hp] at this
          cases hh : a.eval x with
          | pointer q =>
            rw [hh] at this
            cases this with
            | ptr _ L' hL' => rw [g1] at hL'; cases hL'; rfl
          | _ => rw [hh] at this; cases this
        have hsz : (a.eval y).cells.size = i.size := by
          have : P.cellsOf t = i.size := by simp [Program.cellsOf, hi]
          rw [← this, ← hc1, hl]; simp
        simp only [execOp, ho, hax, Instr.storeAt, Instr.sureAddr, storeVar, Sem.run_bind, Sem.run_pure, Result.andThen_ok, sizeOf_run hi, hsz, ne_eq, not_true_eq_false, if_false, hrun]
end
end Go.Proofs.YtipigcgegmedeaaGreat.Ev
