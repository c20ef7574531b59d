/- The evaluator's operations, second part: addresses, new variables, parts. -/
import Derived.Test.YtipigcgegmedeaaGreatEe
namespace Go.Proofs.YtipigcgegmedeaaGreat.Ev
open Go
set_option linter.unusedVariables false
set_option linter.unusedSimpArgs false
noncomputable section
variable {R : Type} {P : Program} {K : KD R} {r : R} {m : Nam} {U : Nat → Prop} {base : Nat} {h : Gt} {w : World} {o : Oper} {a : Act} {ts : List AV}

theorem ptr_real {m : Nam} {p : Adr} {x : Value} (h : VR m (.ptr (some p)) x) : ∃ L, m p.nm = some L ∧ x = .pointer (some ⟨L.b, L.o + p.row * L.s + p.col, none⟩) := by
  cases h with
  | ptr _ L hL => exact ⟨L, hL, rfl⟩
theorem slice_real {m : Nam} {p : Adr} {es l : Nat} {c : Option Nat} {x : Value} (h : VR m (.slice p es l c) x) : ∃ L c', m p.nm = some L ∧ l ≤ c.getD l ∧ c.getD l ≤ c' ∧ L.o + p.row * L.s + p.col + c' * es ≤ L.n ∧ x = .slice (some ⟨L.b, L.o + p.row * L.s + p.col, none⟩) l c' := by
  cases h with
  | slice _ L _ _ _ c' hL hl hc hn => exact ⟨L, c', hL, hl, hc, hn, rfl⟩
theorem int_real {m : Nam} {k : IntKind} {n : Int} {x : Value} (h : VR m (.int k n) x) : x = .int k n := by cases h; rfl
theorem bool_real {m : Nam} {b : Bool} {x : Value} (h : VR m (.bool b) x) : x = .bool b := by cases h; rfl

theorem move_ok (H : HR m U h w) (T : TR m ts a) {x : Operand} (ho : o.op = .move x ∨ o.op = .assign x) (hk : K (evA ts x) .same = some r) : Out P K r m U base h w o a :=
  Out.same H hk (T.eval x) (by rcases ho with ho | ho <;> simp [execOp, ho])

def pickE (ts : List AV) (c x y : Operand) (K : AV → Option R) : Option R :=
  match evA ts c with
  | .bool t => bif t then K (evA ts x) else K (evA ts y)
  | _ => none
theorem pick_ok (H : HR m U h w) (T : TR m ts a) {c x y : Operand} (ho : o.op = .pick c x y) (hk : pickE ts c x y (fun v => K v .same) = some r) : Out P K r m U base h w o a := by
  unfold pickE at hk
  have hc := T.eval c
  split at hk
  · rename_i t ht
    rw [ht] at hc
    have hc := bool_real hc
    cases t with
    | true => exact Out.same H hk (T.eval x) (by simp [execOp, ho, hc, asBool])
    | false => exact Out.same H hk (T.eval y) (by simp [execOp, ho, hc, asBool])
  · cases hk

/-- A variable of its own. -/
def newD (base : Nat) (cs : List AV) (K : AV → Dl → Option R) : Option R :=
  bif cs.all AV.lone then K (.ptr (some ⟨⟨base, 0⟩, 0, 0⟩)) (.new ⟨1, cs.map Col.one, 0⟩) else none
theorem map_one_get (cs : List AV) (c : Nat) (col : Col) (h : (cs.map Col.one)[c]? = some col) : ∃ v, cs[c]? = some v ∧ col = Col.one v := by
  rw [List.getElem?_map] at h
  cases e : cs[c]? with
  | none => rw [e] at h; cases h
  | some v => rw [e] at h; cases h; exact ⟨v, rfl, rfl⟩
theorem map_const_get (cs : List AV) (c : Nat) (col : Col) (h : (cs.map Col.const)[c]? = some col) : ∃ v, cs[c]? = some v ∧ col = Col.const v := by
  rw [List.getElem?_map] at h
  cases e : cs[c]? with
  | none => rw [e] at h; cases h
  | some v => rw [e] at h; cases h; exact ⟨v, rfl, rfl⟩
theorem lone_one {m : Nam} {v : AV} {x : Value} (h : VR m v x) (hl : v.lone = true) : x.oneCell' = true := by
  cases h <;> first | rfl | assumption | (simp [AV.lone] at hl)
theorem new_real (H : HR m U h w) (hU : U base) {cs : List AV} {xs : Array Value} (hr : CR m cs xs.toList) (e : TypeId) (hk : newD base cs K = some r) :
    ∃ v m' , K v (.new ⟨1, cs.map Col.one, 0⟩) = some r ∧ Tr m h w m' (gadd h base ⟨1, cs.map Col.one, 0⟩) (World.push w (.cells xs e (0, 0))) ∧
      HR m' ((Dl.new ⟨1, cs.map Col.one, 0⟩).left U base) (gadd h base ⟨1, cs.map Col.one, 0⟩) (World.push w (.cells xs e (0, 0))) ∧ VR m' v (.pointer (some ⟨w.heap.size, 0, none⟩)) := by
  unfold newD at hk
  cases hl : cs.all AV.lone with
  | false => rw [hl] at hk; cases hk
  | true =>
    rw [hl] at hk
    have hsz : cs.length = xs.size := by simpa using hr.1
    obtain ⟨q1, q2⟩ := H.push hU ⟨1, cs.map Col.one, 0⟩ xs e (0, 0) (fun i _ => by simp) (by simp [hsz]) (by
      intro r' c col hr' hcol
      obtain ⟨v, hv, rfl⟩ := map_one_get cs c col hcol
      have hr0 : r' = 0 := by simpa using hr'
      subst hr0
      have hlt := (List.getElem?_eq_some_iff.1 hv).1
      have hv' := (List.getElem?_eq_some_iff.1 hv).2
      refine ⟨xs[c], by simp, ?_⟩
      have := hr.2 c hlt (by simpa [hsz] using hlt)
      rw [hv'] at this
      exact ⟨by show VR m v _; simpa using this, lone_one this (List.all_eq_true.1 hl v (hv' ▸ List.getElem_mem _))⟩)
    refine ⟨_, _, hk, q2, q1.anti fun f g => ⟨g.1, g.2 rfl⟩, ?_⟩
    have := VR.ptr (m := m.put ⟨base, 0⟩ ⟨w.heap.size, 0, (cs.map Col.one).length, xs.size⟩) ⟨⟨base, 0⟩, 0, 0⟩ ⟨w.heap.size, 0, (cs.map Col.one).length, xs.size⟩ (by simp [Nam.put])
    simpa using this

theorem box_ok (H : HR m U h w) (hU : U base) (T : TR m ts a) {t : TypeId} {x : Operand} (ho : o.op = .box t x) (hk : newD base (evA ts x).cells K = some r) : Out P K r m U base h w o a := by
  have hl : (evA ts x).cells.all AV.lone = true := by
    unfold newD at hk
    cases hl : (evA ts x).cells.all AV.lone with
    | false => rw [hl] at hk; cases hk
    | true => rfl
  obtain ⟨v, m', q1, q2, q3, q4⟩ := new_real H hU (lone_cells (T.eval x) hl).1 t hk
  exact ⟨v, _, _, m', _, q1, (fun _ _ e => by cases e), q2, q3, q4, .inl (by simp [execOp, ho, Instr.box, newVar, newRow]; rfl)⟩

def zeroL (P : Program) (t : TypeId) (K : List AV → Option R) : Option R :=
  match zeroE P t with
  | some cs => K cs
  | none => none
theorem zero_real {t : TypeId} {K : List AV → Option R} (hk : zeroL P t K = some r) : ∃ cs i z, K cs = some r ∧ P.info? t = some i ∧ i.zero = some z ∧ cs = z.cells.toList.map (ofV 3) ∧ ∀ m, CR m cs z.cells.toList := by
  unfold zeroL zeroE at hk
  cases hi : P.info? t with
  | none => rw [hi] at hk; cases hk
  | some i =>
    rw [hi] at hk
    simp only at hk
    cases hz : i.zero with
    | none => rw [hz] at hk; cases hk
    | some z =>
      rw [hz] at hk
      refine ⟨_, i, z, hk, rfl, hz, rfl, fun m => ⟨by simp, fun j h1 h2 => by simpa using VR_ofV m 3 (z.cells[j]'(by simpa using h2))⟩⟩
theorem zeroV_run {t : TypeId} {i : TypeInfo} {z : Value} (h : P.info? t = some i) (hz : i.zero = some z) (w : World) : (zeroValue t).run P w = .ok z w := by
  simp [zeroValue, info_run h, hz]
theorem alloc_ok (H : HR m U h w) (hU : U base) {t : TypeId} (ho : o.op = .alloc t) (hk : zeroL P t (fun cs => newD base cs K) = some r) : Out P K r m U base h w o a := by
  obtain ⟨cs, i, z, k1, k2, k3, k4, k5⟩ := zero_real hk
  obtain ⟨v, m', q1, q2, q3, q4⟩ := new_real H hU (k5 m) t k1
  refine ⟨v, _, _, m', _, q1, (fun _ _ e => by cases e), q2, q3, q4, .inl ?_⟩
  simp [execOp, ho, Instr.alloc, newVar, newRow, zeroV_run k2 k3]
  rfl

def nilCheckE (v : AV) (K : AV → Option R) : Option R :=
  match v with
  | .ptr (some a) => K (.ptr (some a))
  | .iface t v => K (.iface t v)
  | .func f => K (.func f)
  | _ => none
theorem nilCheck_ok (H : HR m U h w) (T : TR m ts a) {x : Operand} (ho : o.op = .nilCheck x) (hk : nilCheckE (evA ts x) (fun v => K v .same) = some r) : Out P K r m U base h w o a := by
  have hx := T.eval x
  unfold nilCheckE at hk
  split at hk
  · rename_i p hp
    rw [hp] at hx
    obtain ⟨L, hL, e⟩ := ptr_real hx
    refine Out.same H hk hx ?_
    simp [execOp, ho, e]
  · rename_i t v hp
    rw [hp] at hx
    refine Out.same H hk hx ?_
    cases hxx : a.eval x with
    | iface t' v' => simp [execOp, ho, hxx]
    | _ => rw [hxx] at hx; cases hx
  · rename_i f hp
    rw [hp] at hx
    refine Out.same H hk hx ?_
    cases hxx : a.eval x with
    | func fn u v =>
      rw [hxx] at hx
      cases hx
      simp [execOp, ho, hxx]
    | _ => rw [hxx] at hx; cases hx
  · cases hk

def fieldAddrE (P : Program) (s : TypeId) (f : Nat) (v : AV) (K : AV → Option R) : Option R :=
  match v, P.underlying s with
  | .ptr (some p), some (.struct fs) => match fs[f]? with
    | some fd => match P.info? fd.type with
      | some i => bif Nat.beq i.size 0 then none else K (.ptr (some { p with col := p.col + fd.offset }))
      | none => none
    | none => none
  | _, _ => none
theorem ptr_vr {m : Nam} {p : Adr} {L : Loc} (h : m p.nm = some L) {n : Nat} (hn : n = L.o + p.row * L.s + p.col) : VR m (.ptr (some p)) (.pointer (some ⟨L.b, n, none⟩)) := hn ▸ VR.ptr p L h
theorem fieldAddr_ok (H : HR m U h w) (T : TR m ts a) {s : TypeId} {x : Operand} {f : Nat} (ho : o.op = .fieldAddr s x f) (hk : fieldAddrE P s f (evA ts x) (fun v => K v .same) = some r) : Out P K r m U base h w o a := by
  have hx := T.eval x
  unfold fieldAddrE at hk
  split at hk
  · rename_i p fs hp hu
    rw [hp] at hx
    obtain ⟨L, hL, e⟩ := ptr_real hx
    split at hk
    · rename_i fd hfd
      split at hk
      · rename_i i hi
        cases hz : Nat.beq i.size 0 with
        | true => rw [hz] at hk; cases hk
        | false =>
          rw [hz] at hk
          have hz' : i.size ≠ 0 := Nat.ne_of_beq_eq_false hz
          refine Out.same H hk (ptr_vr (p := { p with col := p.col + fd.offset }) hL (n := L.o + p.row * L.s + p.col + fd.offset) (by simp only; omega)) ?_
          simp [execOp, ho, e, Instr.fieldAt, run_underlying hu, hfd, Instr.sureAddr, fieldPlace, sizeOf_run hi, hz', addr_add]
      · cases hk
    · cases hk
  · cases hk

/-- The place i parts of e cells behind. -/
theorem step_vr {m : Nam} {U : Nat → Prop} {h : Gt} {w : World} (H : HR m U h w) {p : Adr} {L : Loc} (hL : m p.nm = some L) {i e : Nat} {K : Adr → Option R} (hk : stepE h p i e K = some r) :
    ∃ q, K q = some r ∧ q.nm = p.nm ∧ L.o + q.row * L.s + q.col = L.o + p.row * L.s + p.col + i * e := by
  unfold stepE at hk
  split at hk
  · rename_i B hB
    obtain ⟨L', cs, e', fz, g1, g2, g3, g7, g4, g5, g6⟩ := H.live _ _ hB
    rw [hL] at g1; cases g1
    rw [beq_cond] at hk
    split at hk
    · rename_i he
      rw [beq_cond] at hk
      split at hk
      · rename_i hc
        refine ⟨_, hk, rfl, ?_⟩
        simp only [hc, he, g2, Nat.add_mul]
        omega
      · cases hk
    · exact ⟨_, hk, rfl, by simp only; omega⟩
  · cases hk

def indexAddrE (P : Program) (g : Gt) (t : TypeId) (v ix : AV) (K : AV → Option R) : Option R :=
  match P.underlying t, v, ix with
  | some (.array len e), .ptr (some p), .int _ i => match P.info? e with
    | some ie => bif decide (0 ≤ i) && decide (i < len) then stepE g p i.toNat ie.size (fun q => K (.ptr (some q))) else none
    | none => none
  | some (.slice e), .slice p _ len _, .int _ i => match P.info? e with
    | some ie => bif decide (0 ≤ i) && decide (i < len) then stepE g p i.toNat ie.size (fun q => K (.ptr (some q))) else none
    | none => none
  | _, _, _ => none
theorem indexAddr_ok (H : HR m U h w) (T : TR m ts a) {t : TypeId} {x ix : Operand} (ho : o.op = .indexAddr t x ix) (hk : indexAddrE P h t (evA ts x) (evA ts ix) (fun v => K v .same) = some r) : Out P K r m U base h w o a := by
  have hx := T.eval x
  have hi := T.eval ix
  unfold indexAddrE at hk
  split at hk
  · rename_i len e p k i hu hp hix
    rw [hp] at hx; rw [hix] at hi
    obtain ⟨L, hL, ex⟩ := ptr_real hx
    have ei := int_real hi
    split at hk
    · rename_i ie hie
      cases hc : (decide (0 ≤ i) && decide (i < (len : Int))) with
      | false => rw [hc] at hk; cases hk
      | true =>
        rw [hc] at hk
        simp only [cond_true] at hk
        simp only [Bool.and_eq_true, decide_eq_true_eq] at hc
        obtain ⟨q, k1, k2, k3⟩ := step_vr H hL hk
        refine Out.same H k1 (ptr_vr (p := q) (k2 ▸ hL) (n := L.o + p.row * L.s + p.col + i.toNat * ie.size) k3.symm) ?_
        simp [execOp, ho, ex, ei, Instr.indexAt, asIntOf, run_underlying hu, Instr.sureAddr, hc.1, hc.2, sizeOf_run hie, addr_add]
    · cases hk
  · rename_i e p es len c k i hu hp hix
    rw [hp] at hx; rw [hix] at hi
    obtain ⟨L, c', hL, hll, hcc, hnn, ex⟩ := slice_real hx
    have ei := int_real hi
    split at hk
    · rename_i ie hie
      cases hc : (decide (0 ≤ i) && decide (i < (len : Int))) with
      | false => rw [hc] at hk; cases hk
      | true =>
        rw [hc] at hk
        simp only [cond_true] at hk
        simp only [Bool.and_eq_true, decide_eq_true_eq] at hc
        obtain ⟨q, k1, k2, k3⟩ := step_vr H hL hk
        refine Out.same H k1 (ptr_vr (p := q) (k2 ▸ hL) (n := L.o + p.row * L.s + p.col + i.toNat * ie.size) k3.symm) ?_
        simp [execOp, ho, ex, ei, Instr.indexAt, asIntOf, run_underlying hu, hc.1, hc.2, sizeOf_run hie, addr_add]
    · cases hk
  · cases hk

def extractE (i : Nat) (v : AV) (K : AV → Option R) : Option R :=
  match v with
  | .tuple vs => match vs[i]? with
    | some v => K v
    | none => none
  | _ => none
theorem extract_ok (H : HR m U h w) (T : TR m ts a) {x : Operand} {i : Nat} (ho : o.op = .extract x i) (hk : extractE i (evA ts x) (fun v => K v .same) = some r) : Out P K r m U base h w o a := by
  have hx := T.eval x
  unfold extractE at hk
  split at hk
  · rename_i vs hp
    rw [hp] at hx
    split at hk
    · rename_i v hv
      cases hxx : a.eval x with
      | tuple xs =>
        rw [hxx] at hx
        cases hx with
        | tuple _ xs hl hc =>
          have hlt := (List.getElem?_eq_some_iff.1 hv).1
          have hv' := (List.getElem?_eq_some_iff.1 hv).2
          have := hc i hlt (hl ▸ hlt)
          rw [hv'] at this
          refine Out.same H hk this ?_
          have hget : xs[i]? = some (xs[i]'(hl ▸ hlt)) := List.getElem?_eq_getElem _
          simp [execOp, ho, hxx, Instr.extract, hget]
      | _ => rw [hxx] at hx; cases hx
    · cases hk
  · cases hk

def partE (P : Program) (t : TypeId) (cs : List AV) (off : Nat) (K : AV → Option R) : Option R :=
  match isAgg P t, P.info? t with
  | some true, some i => K (.agg ((cs.drop off).take i.size))
  | some false, some _ => match cs[off]? with
    | some v => K v
    | none => none
  | _, _ => none
theorem part_real {t : TypeId} {cs : List AV} {xs : List Value} {off : Nat} {K : AV → Option R} (hc : CR m cs xs) (hk : partE P t cs off K = some r) (w : World) : ∃ v y, K v = some r ∧ VR m v y ∧ (part t ⟨xs⟩ off).run P w = .ok y w := by
  unfold partE at hk
  cases ha : isAgg P t with
  | none => rw [ha] at hk; cases hk
  | some ag =>
    cases hi : P.info? t with
    | none => rw [ha, hi] at hk; cases ag <;> cases hk
    | some i =>
      rw [ha, hi] at hk
      cases ag with
      | true =>
        refine ⟨_, .agg ⟨(xs.drop off).take i.size⟩, hk, .agg _ _ (by simp [hc.1]) (fun j h1 h2 => ?_), ?_⟩
        · have h1' : off + j < cs.length := by simp at h1; omega
          have := hc.2 (off + j) h1' (hc.1 ▸ h1')
          simpa using this
        · simp only [part, Sem.run_bind, isAgg_run ha, Result.andThen_ok, if_true, sizeOf_run hi, Sem.run_pure]
          congr 2
          apply Array.ext'
          simp [List.extract_eq_take_drop]
      | false =>
        simp only at hk
        cases hv : cs[off]? with
        | none => rw [hv] at hk; cases hk
        | some v =>
          rw [hv] at hk
          have hlt := (List.getElem?_eq_some_iff.1 hv).1
          have hv' := (List.getElem?_eq_some_iff.1 hv).2
          have := hc.2 off hlt (hc.1 ▸ hlt)
          rw [hv'] at this
          refine ⟨_, _, hk, this, ?_⟩
          have hget : xs[off]? = some (xs[off]'(hc.1 ▸ hlt)) := List.getElem?_eq_getElem _
          simp [part, isAgg_run ha, hget]
def fieldE (P : Program) (t : TypeId) (f : Nat) (v : AV) (K : AV → Option R) : Option R :=
  match v, P.underlying t with
  | .agg cs, some (.struct fs) => match fs[f]? with
    | some fd => partE P fd.type cs fd.offset K
    | none => none
  | _, _ => none
theorem field_ok (H : HR m U h w) (T : TR m ts a) {t : TypeId} {x : Operand} {f : Nat} (ho : o.op = .field t x f) (hk : fieldE P t f (evA ts x) (fun v => K v .same) = some r) : Out P K r m U base h w o a := by
  have hx := T.eval x
  unfold fieldE at hk
  split at hk
  · rename_i cs fs hp hu
    rw [hp] at hx
    split at hk
    · rename_i fd hfd
      cases hxx : a.eval x with
      | agg ys =>
        rw [hxx] at hx
        cases hx with
        | agg _ xs hl hc =>
          obtain ⟨v, y, k1, k2, k3⟩ := part_real ⟨hl, hc⟩ hk w
          refine Out.same H k1 k2 ?_
          simp [execOp, ho, hxx, Instr.field, run_underlying hu, hfd, asAgg, k3]
      | _ => rw [hxx] at hx; cases hx
    · cases hk
  · cases hk
def indexE (P : Program) (t : TypeId) (v ix : AV) (K : AV → Option R) : Option R :=
  match v, ix, P.underlying t with
  | .agg cs, .int _ i, some (.array len e) => match P.info? e with
    | some ie => bif decide (0 ≤ i) && decide (i < len) then partE P e cs (i.toNat * ie.size) K else none
    | none => none
  | _, _, _ => none
theorem index_ok (H : HR m U h w) (T : TR m ts a) {t : TypeId} {x ix : Operand} (ho : o.op = .index t x ix) (hk : indexE P t (evA ts x) (evA ts ix) (fun v => K v .same) = some r) : Out P K r m U base h w o a := by
  have hx := T.eval x
  have hi := T.eval ix
  unfold indexE at hk
  split at hk
  · rename_i cs k i len e hp hix hu
    rw [hp] at hx; rw [hix] at hi
    have ei := int_real hi
    split at hk
    · rename_i ie hie
      cases hc : (decide (0 ≤ i) && decide (i < (len : Int))) with
      | false => rw [hc] at hk; cases hk
      | true =>
        rw [hc] at hk
        simp only [cond_true] at hk
        simp only [Bool.and_eq_true, decide_eq_true_eq] at hc
        cases hxx : a.eval x with
        | agg ys =>
          rw [hxx] at hx
          cases hx with
          | agg _ xs hl hcc =>
            obtain ⟨v, y, k1, k2, k3⟩ := part_real ⟨hl, hcc⟩ hk w
            refine Out.same H k1 k2 ?_
            simp [execOp, ho, hxx, ei, Instr.index, asIntOf, run_underlying hu, hc.1, hc.2, sizeOf_run hie, k3]
        | _ => rw [hxx] at hx; cases hx
    · cases hk
  · cases hk
def makeInterfaceE (P : Program) (t : TypeId) (v : AV) (K : AV → Option R) : Option R :=
  match P.underlying t with
  | some (.interface _) => none
  | some _ => K (.iface t v)
  | none => none
theorem makeInterface_ok (H : HR m U h w) (T : TR m ts a) {t : TypeId} {x : Operand} (ho : o.op = .makeInterface t x) (hk : makeInterfaceE P t (evA ts x) (fun v => K v .same) = some r) : Out P K r m U base h w o a := by
  unfold makeInterfaceE at hk
  split at hk
  · cases hk
  · rename_i d hd hu
    refine Out.same H hk (.iface t _ _ (T.eval x)) ?_
    simp only [execOp, ho, Instr.makeInterface, Sem.run_bind, run_underlying hu, Result.andThen_ok]
    cases d <;> first | rfl | exact absurd rfl (hd _)
  · cases hk
end
end Go.Proofs.YtipigcgegmedeaaGreat.Ev
