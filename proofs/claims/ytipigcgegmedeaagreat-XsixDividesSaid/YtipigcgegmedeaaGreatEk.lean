/- The evaluator's operations, fifth part: built values, new slices, lengths. -/
import Derived.Test.YtipigcgegmedeaaGreatEj
namespace Go.Proofs.YtipigcgegmedeaaGreat.Ev
open Go
set_option linter.unusedVariables false
set_option linter.unusedSimpArgs false
noncomputable section
variable {R : Type} {P : Program} {K : KD R} {r : R} {m : Nam} {U : Nat → Prop} {base : Nat} {h : Gt} {w : World} {o : Oper} {a : Act} {ts : List AV}

def AV.known : AV → Bool
  | .undef => false
  | _ => true
theorem known_cells {m : Nam} {v : AV} {x : Value} (h : VR m v x) (hv : v.known = true) : CR m v.cells x.cells.toList := by
  cases h with
  | agg cs xs hl hx => exact ⟨hl, hx⟩
  | undef v => simp [AV.known] at hv
  | cell x h =>
    have e : x.cells = #[x] := by cases x <;> simp [Value.oneCell'] at h <;> rfl
    rw [e]
    exact ⟨rfl, fun i a b => by
      have : i = 0 := by simpa [AV.cells] using a
      subst this; exact .cell x h⟩
  | tuple cs xs hl hx => exact ⟨rfl, fun i a b => by
      have : i = 0 := by simpa [AV.cells] using a
      subst this; exact .tuple cs xs hl hx⟩
  | iface t v x hx => exact ⟨rfl, fun i a b => by
      have : i = 0 := by simpa [AV.cells] using a
      subst this; exact .iface t v x hx⟩
  | _ => exact ⟨rfl, fun i a b => by
      have : i = 0 := by simpa [AV.cells] using a
      subst this; constructor <;> assumption⟩
theorem lay_fold (vs : List Value) : ∀ (off k : Nat) (cs : Array Value), (vs.zipIdx k).foldl (fun cs (p : Value × Nat) => cs.setIfInBounds (off + p.2) p.1) cs = wr cs (off + k) vs := by
  induction vs with
  | nil => intro off k cs; rfl
  | cons v vs ih =>
    intro off k cs
    simp only [List.zipIdx_cons, List.foldl_cons, wr]
    rw [ih off (k + 1)]
    rfl
theorem layE_len : ∀ (cs : List AV) (off : Nat) (vs : List AV), (layE cs off vs).length = cs.length
  | [], off, vs => by cases off <;> cases vs <;> rfl
  | c :: t, 0, [] => rfl
  | c :: t, 0, v :: vs => by simp [layE, layE_len t 0 vs]
  | c :: t, n + 1, vs => by simp [layE, layE_len t n vs]
theorem layE_get : ∀ (cs : List AV) (off : Nat) (vs : List AV) (i : Nat), off + vs.length ≤ cs.length → (layE cs off vs)[i]? = if off ≤ i ∧ i < off + vs.length then vs[i - off]? else cs[i]?
  | [], off, vs, i, h => by
    simp at h
    obtain ⟨rfl, rfl⟩ := h
    simp [layE]
  | c :: t, 0, [], i, h => by rw [if_neg (by simp)]; rfl
  | c :: t, 0, v :: vs, 0, h => by simp [layE]
  | c :: t, 0, v :: vs, i + 1, h => by
    simp only [layE, List.getElem?_cons_succ, layE_get t 0 vs i (by simp at h ⊢; omega)]
    by_cases hh : i < vs.length
    · rw [if_pos (by omega), if_pos (by simp; omega)]; simp
    · rw [if_neg (by omega), if_neg (by simp; omega)]
  | c :: t, n + 1, vs, 0, h => by rw [if_neg (by omega)]; rfl
  | c :: t, n + 1, vs, i + 1, h => by
    simp only [layE, List.getElem?_cons_succ, layE_get t n vs i (by simp at h; omega)]
    by_cases hh : n ≤ i ∧ i < n + vs.length
    · rw [if_pos hh, if_pos (by omega), show i + 1 - (n + 1) = i - n by omega]
    · rw [if_neg hh, if_neg (by omega)]
theorem CR.at {m : Nam} {cs : List AV} {xs : List Value} (h : CR m cs xs) {i : Nat} {v : AV} (hv : cs[i]? = some v) : ∃ x, xs[i]? = some x ∧ VR m v x := by
  obtain ⟨hlt, he⟩ := List.getElem?_eq_some_iff.1 hv
  have := h.2 i hlt (h.1 ▸ hlt)
  rw [he] at this
  exact ⟨_, List.getElem?_eq_getElem (h.1 ▸ hlt), this⟩
theorem CR.of {m : Nam} {cs : List AV} {xs : List Value} (hl : cs.length = xs.length) (h : ∀ (i : Nat) (v : AV), cs[i]? = some v → ∃ x : Value, xs[i]? = some x ∧ VR m v x) : CR m cs xs := by
  refine ⟨hl, fun i a b => ?_⟩
  obtain ⟨x, q1, q2⟩ := h i cs[i] (List.getElem?_eq_getElem a)
  have := (List.getElem?_eq_some_iff.1 q1).2
  rw [this]; exact q2

def PR (m : Nam) (ps : List (Nat × AV)) (qs : List (Nat × Value)) : Prop := ps.length = qs.length ∧ ∀ (i : Nat) (p : Nat × AV), ps[i]? = some p → ∃ q : Nat × Value, qs[i]? = some q ∧ q.1 = p.1 ∧ VR m p.2 q.2
/-- The parts laid, each of a known value. -/
theorem fill_real {place place' : Nat → Option (Nat × Nat)} (hp : ∀ i, place' i = place i) : ∀ (ps : List (Nat × AV)) (qs : List (Nat × Value)) (cs cs' : List AV) (xs : Array Value), (ps.all fun p => p.2.known) = true → PR m ps qs → CR m cs xs.toList → fillE place cs ps = some cs' →
    ∃ xs', Instr.fill place' xs qs = some xs' ∧ CR m cs' xs'.toList := by
  intro ps
  induction ps with
  | nil =>
    intro qs cs cs' xs _ hpq hc hf
    have : qs = [] := List.eq_nil_of_length_eq_zero hpq.1.symm
    subst this
    simp only [fillE, Option.some.injEq] at hf
    subst hf
    exact ⟨xs, rfl, hc⟩
  | cons p ps ih =>
    intro qs cs cs' xs hk hpq hc hf
    obtain ⟨i, v⟩ := p
    cases qs with
    | nil => simp [PR] at hpq
    | cons q qs =>
      obtain ⟨i', x⟩ := q
      obtain ⟨q0, e0, e1, hv⟩ := hpq.2 0 (i, v) rfl
      cases e0
      simp only at e1 hv
      subst e1
      simp only [List.all_cons, Bool.and_eq_true] at hk
      have hcv := known_cells hv hk.1
      have hlen : v.cells.length = x.cells.size := by simpa using hcv.1
      simp only [fillE] at hf
      simp only [Instr.fill, hp]
      split at hf
      · cases hf
      · rename_i off size hpl
        cases hb : (Nat.beq v.cells.length size && Nat.ble (off + v.cells.length) cs.length) with
        | false => rw [hb] at hf; cases hf
        | true =>
          rw [hb] at hf
          simp only [cond_true] at hf
          simp only [Bool.and_eq_true] at hb
          have b1 := Nat.eq_of_beq_eq_true hb.1
          have b2 : off + v.cells.length ≤ cs.length := by simpa using hb.2
          have hcl : cs.length = xs.size := by simpa using hc.1
          have hcond : ¬ ((x.cells.size ≠ size || decide (off + x.cells.size > xs.size)) = true) := by
            simp; omega
          rw [hpl]
          simp only
          rw [if_neg (by simpa using hcond)]
          have hfold : x.cells.zipIdx.foldl (fun cs (p : Value × Nat) => cs.setIfInBounds (off + p.2) p.1) xs = wr xs off x.cells.toList := by
            have := lay_fold x.cells.toList off 0 xs
            rw [Nat.add_zero] at this
            rw [← this, ← Array.foldl_toList]
            simp
          have hfold' : x.cells.zipIdx.foldl (fun cs (p : Value × Nat) => match p with | (c, j) => cs.setIfInBounds (off + j) c) xs = wr xs off x.cells.toList := hfold
          rw [hfold']
          refine ih qs _ _ _ hk.2 ⟨by simpa using hpq.1, fun j p hj => by simpa using hpq.2 (j + 1) p (by simpa using hj)⟩ (CR.of ?_ ?_) hf
          · rw [layE_len, hcl]; simp [wr_size]
          · intro j y hj
            rw [layE_get _ _ _ _ b2] at hj
            have hg := wr_get x.cells.toList xs off j (by simp; omega)
            simp only [Array.getElem?_toList]
            rw [hg]
            simp only [Array.length_toList, ← hlen]
            by_cases hin : off ≤ j ∧ j < off + v.cells.length
            · rw [if_pos hin] at hj ⊢
              exact hcv.at hj
            · rw [if_neg hin] at hj ⊢
              have := hc.at hj
              simpa using this

def partsE (ts : List AV) (ps : Array (Nat × Operand)) : List (Nat × AV) := ps.toList.map fun p => (p.1, evA ts p.2)
theorem parts_real (T : TR m ts a) (ps : Array (Nat × Operand)) : PR m (partsE ts ps) (ps.map fun (i, x) => (i, a.eval x)).toList := by
  refine ⟨by simp [partsE], fun i p hp => ?_⟩
  simp only [partsE, List.getElem?_map] at hp
  cases hq : ps.toList[i]? with
  | none => rw [hq] at hp; cases hp
  | some q =>
    rw [hq] at hp
    simp only [Option.map_some, Option.some.injEq] at hp
    subst hp
    refine ⟨(q.1, a.eval q.2), ?_, rfl, T.eval q.2⟩
    simp [Array.toList_map, List.getElem?_map, hq]

/-- The columns of rows that lie flat. -/
def intsOf : List AV → Option (IntKind × List Int)
  | [] => none
  | [.int k n] => some (k, [n])
  | .int k n :: t => match intsOf t with
    | some (k', l) => if k = k' then some (k, n :: l) else none
    | none => none
  | _ => none
def boolsOf : List AV → Option (List Bool)
  | [] => some []
  | .bool b :: t => match boolsOf t with
    | some l => some (b :: l)
    | none => none
  | _ => none
def colOf (vs : List AV) : Col :=
  match intsOf vs with
  | some (k, l) => .ints k fun i => l.getD i 0
  | none => match boolsOf vs with
    | some l => .bools fun i => l.getD i false
    | none => .vals fun i => nth vs i
theorem intsOf_get : ∀ (vs : List AV) (k : IntKind) (l : List Int) (i : Nat) (v : AV), intsOf vs = some (k, l) → vs[i]? = some v → v = .int k (l.getD i 0) := by
  intro vs
  induction vs with
  | nil => intro k l i v h _; simp [intsOf] at h
  | cons x t ih =>
    intro k l i v h hv
    cases x with
    | int kx n =>
      cases t with
      | nil =>
        simp only [intsOf, Option.some.injEq, Prod.mk.injEq] at h
        obtain ⟨rfl, rfl⟩ := h
        cases i with
        | zero => simp at hv; simp [hv]
        | succ i => simp at hv
      | cons y t =>
        simp only [intsOf] at h
        split at h
        · rename_i k' l' hl
          split at h
          · rename_i hk
            subst hk
            cases h
            cases i with
            | zero => simp at hv; simp [← hv]
            | succ i => simpa using ih _ l' i v hl (by simpa using hv)
          · cases h
        · cases h
    | _ => cases t <;> simp [intsOf] at h
theorem boolsOf_get : ∀ (vs : List AV) (l : List Bool) (i : Nat) (v : AV), boolsOf vs = some l → vs[i]? = some v → v = .bool (l.getD i false) := by
  intro vs
  induction vs with
  | nil => intro l i v h hv; simp at hv
  | cons x t ih =>
    intro l i v h hv
    cases x with
    | bool b =>
      simp only [boolsOf] at h
      split at h
      · rename_i l' hl
        cases h
        cases i with
        | zero => simp at hv; simp [← hv]
        | succ i => simpa using ih l' i v hl (by simpa using hv)
      · cases h
    | _ => simp [boolsOf] at h
theorem colOf_at (vs : List AV) (i : Nat) (v : AV) (hv : vs[i]? = some v) : (colOf vs).at i = v := by
  unfold colOf
  split
  · rename_i k l hl; exact (intsOf_get vs k l i v hl hv).symm
  · split
    · rename_i l hl; exact (boolsOf_get vs l i v hl hv).symm
    · simp only [Col.at, nth_eq, hv, Option.getD_some]
def pick (l : List AV) (size c : Nat) : Nat → List AV
  | 0 => []
  | n + 1 => pick l size c n ++ [nth l (n * size + c)]
theorem pick_get (l : List AV) (size c : Nat) : ∀ (n i : Nat), i < n → (pick l size c n)[i]? = some (nth l (i * size + c)) := by
  intro n
  have hlen : ∀ n, (pick l size c n).length = n := by
    intro n
    induction n with
    | zero => rfl
    | succ n ih => simp [pick, ih]
  induction n with
  | zero => intro i h; omega
  | succ n ih =>
    intro i h
    simp only [pick]
    by_cases hi : i < n
    · rw [List.getElem?_append_left (by rw [hlen]; exact hi)]; exact ih i hi
    · have : i = n := by omega
      subst this
      rw [List.getElem?_append_right (by rw [hlen]; exact Nat.le_refl _), hlen]
      simp
def colsOf (l : List AV) (size rows : Nat) : List Col := (List.range size).map fun c => colOf (pick l size c rows)
theorem colsOf_at (l : List AV) (size rows r' c : Nat) (col : Col) (hr : r' < rows) (hc : (colsOf l size rows)[c]? = some col) : c < size ∧ col.at r' = nth l (r' * size + c) := by
  simp only [colsOf, List.getElem?_map] at hc
  by_cases hlt : c < size
  · rw [List.getElem?_range hlt] at hc
    simp only [Option.map_some, Option.some.injEq] at hc
    subst hc
    exact ⟨hlt, colOf_at _ _ _ (pick_get l size c rows r' hr)⟩
  · rw [List.getElem?_eq_none (by simp; omega)] at hc
    cases hc

/-- A row of n parts in a block of its own. -/
theorem row_new (H : HR m U h w) (hU : U base) {cs : List AV} {xs : Array Value} (hr : CR m cs xs.toList) (hl : cs.all AV.lone = true) (e : TypeId) {size rows : Nat} (hsz : cs.length = rows * size) :
    ∃ m', Tr m h w m' (gadd h base ⟨rows, colsOf cs size rows, 0⟩) (World.push w (.cells xs e (0, 0))) ∧ HR m' ((Dl.new ⟨rows, colsOf cs size rows, 0⟩).left U base) (gadd h base ⟨rows, colsOf cs size rows, 0⟩) (World.push w (.cells xs e (0, 0))) ∧
      VR m' (.slice ⟨⟨base, 0⟩, 0, 0⟩ size rows (some rows)) (.slice (some ⟨w.heap.size, 0, none⟩) rows rows) := by
  have hlen : (colsOf cs size rows).length = size := by simp [colsOf]
  have hxs : xs.size = rows * size := by rw [← hsz]; simpa using hr.1.symm
  obtain ⟨q1, q2⟩ := H.push hU ⟨rows, colsOf cs size rows, 0⟩ xs e (0, 0) (fun i _ => by simp) (by simp [hlen, hxs]) (by
    intro r' c col hr' hcol
    simp only [hlen]
    obtain ⟨h1, h2⟩ := colsOf_at cs size rows r' c col hr' hcol
    have hj : r' * size + c < cs.length := by rw [hsz]; exact mul_row hr' h1
    obtain ⟨x, x1, x2⟩ := hr.at (List.getElem?_eq_getElem hj)
    refine ⟨x, by simpa using x1, ?_, ?_⟩
    · rw [h2, nth_eq, List.getElem?_eq_getElem hj]; exact x2
    · exact lone_one x2 (List.all_eq_true.1 hl _ (List.getElem_mem _)))
  refine ⟨_, q2, q1.anti fun f g => ⟨g.1, g.2 rfl⟩, ?_⟩
  have hsl := slice_vr (m := m.put ⟨base, 0⟩ ⟨w.heap.size, 0, (colsOf cs size rows).length, xs.size⟩) (p := ⟨⟨base, 0⟩, 0, 0⟩) (L := ⟨w.heap.size, 0, (colsOf cs size rows).length, xs.size⟩) (n := 0) (es := size) (l := rows) (c := some rows) (c' := rows) (by simp [Nam.put]) (by simp) (by simp) (by simp) (by simp [hxs])
  exact hsl

def repl (z : List AV) : Nat → List AV
  | 0 => []
  | n + 1 => z ++ repl z n
def buildSliceD (P : Program) (base : Nat) (t : TypeId) (len : Nat) (ps : List (Nat × AV)) (K : KD R) : Option R :=
  match P.underlying t with
  | some (.slice e) => match P.info? e with
    | some ie => bif ps.all (fun p => p.2.known) && Nat.ble (len * ie.size) (2 ^ 24) && Nat.ble 1 ie.size then
        zeroL P e fun z => bif Nat.beq z.length ie.size then
          match fillE (fun i => some (i * ie.size, ie.size)) (repl z len) ps with
          | some cs => bif cs.all AV.lone && Nat.beq cs.length (len * ie.size) then
              K (.slice ⟨⟨base, 0⟩, 0, 0⟩ ie.size len (some len)) (.new ⟨len, colsOf cs ie.size len, 0⟩)
            else none
          | none => none
        else none
      else none
    | none => none
  | _ => none
theorem repl_get (z : List AV) (hz : 0 < z.length) : ∀ (n i : Nat), i < n * z.length → (repl z n)[i]? = z[i % z.length]? := by
  intro n
  induction n with
  | zero => intro i h; omega
  | succ n ih =>
    intro i h
    simp only [repl]
    by_cases hi : i < z.length
    · rw [List.getElem?_append_left hi, Nat.mod_eq_of_lt hi]
    · rw [List.getElem?_append_right (by omega), ih _ (by rw [Nat.succ_mul] at h; omega)]
      rw [show i % z.length = (i - z.length) % z.length from Nat.mod_eq_sub_mod (by omega)]
theorem repl_len (z : List AV) : ∀ n, (repl z n).length = n * z.length := by
  intro n
  induction n with
  | zero => simp [repl]
  | succ n ih => simp [repl, ih, Nat.succ_mul, Nat.add_comm]
theorem zeros_real {m : Nam} {z : List AV} {zc : Array Value} (hz : CR m z zc.toList) (h0 : 0 < z.length) (n : Nat) : CR m (repl z n) ((Array.range (n * z.length)).map (zc[· % zc.size]!)).toList := by
  have hs : z.length = zc.size := by simpa using hz.1
  refine CR.of (by simp [repl_len]) fun i v hv => ?_
  have hi : i < n * z.length := by
    have := (List.getElem?_eq_some_iff.1 hv).1
    rwa [repl_len] at this
  rw [repl_get z h0 n i hi] at hv
  obtain ⟨x, x1, x2⟩ := hz.at hv
  refine ⟨x, ?_, x2⟩
  have hm : i % zc.size < zc.size := Nat.mod_lt _ (by omega)
  simp only [Array.getElem?_toList] at x1
  rw [hs] at x1
  have hx : zc[i % zc.size]! = x := by
    have := (Array.getElem?_eq_some_iff.1 x1).2
    simpa [hm] using this
  simp [hi, hx]
theorem buildSlice_ok (H : HR m U h w) (hU : U base) (T : TR m ts a) {t : TypeId} {len : Nat} {ps : Array (Nat × Operand)} (ho : o.op = .buildSlice t len ps) (hk : buildSliceD P base t len (partsE ts ps) K = some r) : Out P K r m U base h w o a := by
  unfold buildSliceD at hk
  split at hk
  case h_2 => cases hk
  rename_i e hu
  split at hk
  case h_2 => cases hk
  rename_i ie hi
  cases hc : ((partsE ts ps).all (fun p => p.2.known) && Nat.ble (len * ie.size) (2 ^ 24) && Nat.ble 1 ie.size) with
  | false => rw [hc] at hk; cases hk
  | true =>
  rw [hc] at hk
  simp only [cond_true] at hk
  simp only [Bool.and_eq_true] at hc
  obtain ⟨⟨c1, c2⟩, c3⟩ := hc
  have c2 : len * ie.size ≤ 2 ^ 24 := by simpa using c2
  have c3 : 1 ≤ ie.size := by simpa using c3
  obtain ⟨z, i', zv, hk, k2, k3, k4, k5⟩ := zero_real hk
  rw [hi] at k2
  cases k2
  rw [beq_cond] at hk
  split at hk
  case isFalse => cases hk
  rename_i hzl
  split at hk
  case h_2 => cases hk
  rename_i cs hf
  cases hd : (cs.all AV.lone && Nat.beq cs.length (len * ie.size)) with
  | false => rw [hd] at hk; cases hk
  | true =>
  rw [hd] at hk
  simp only [cond_true] at hk
  simp only [Bool.and_eq_true] at hd
  have d2 := Nat.eq_of_beq_eq_true hd.2
  have hzc : zv.cells.size = ie.size := by
    have := (k5 m).1
    rw [hzl] at this
    simpa using this.symm
  have hz := zeros_real (k5 m) (by omega) len
  rw [hzl] at hz
  obtain ⟨xs, f1, f2⟩ := fill_real (place' := fun i => some (i * ie.size, ie.size)) (fun _ => rfl) _ _ _ _ _ c1 (parts_real T ps) hz hf
  obtain ⟨m', t1, t2, t3⟩ := row_new H hU f2 hd.1 e d2
  refine ⟨_, _, _, m', _, hk, (fun _ _ e => by cases e), t1, t2, t3, .inl ?_⟩
  have hif : ¬ (len * ie.size > 2 ^ 24) := by omega
  by_cases h0 : len * ie.size = 0
  · have hl0 : len = 0 := by
      rcases Nat.mul_eq_zero.1 h0 with e | e
      · exact e
      · omega
    subst hl0
    have hr0 : Array.range 0 = #[] := rfl
    simp only [Nat.zero_mul, hr0, List.map_toArray, List.map_nil] at f1
    simp only [execOp, ho, Instr.buildSlice, Sem.run_bind, run_underlying hu, Result.andThen_ok, sizeOf_run hi, Nat.zero_mul, if_true, Sem.run_pure, hr0, List.map_toArray, List.map_nil, f1, newRow, run_newObj, Sem.run_ite]
    rfl
  · simp only [execOp, ho, Instr.buildSlice, Sem.run_bind, run_underlying hu, Result.andThen_ok, sizeOf_run hi, hif, if_false, h0, Sem.run_pure, zeroV_run hi k3, f1, newRow, run_newObj, Sem.run_ite]
    rfl
end
end Go.Proofs.YtipigcgegmedeaaGreat.Ev
