/- The evaluator's operations all together; calls; a region in its order. -/
import Derived.Test.YtipigcgegmedeaaGreatEs
import Derived.Laws.StructEq
namespace Go.Proofs.YtipigcgegmedeaaGreat.Ev
open Go
set_option linter.unusedVariables false
set_option linter.unusedSimpArgs false
noncomputable section
variable {R : Type} {P : Program} {r : R} {m : Nam} {w : World} {o : Oper} {a : Act} {ts : List AV} {ds : List Deferred}

/-- Structs of numbers and truths, field by field. -/
def fieldsE (P : Program) (cs ds : List AV) : List Field → Option Bool
  | [] => some true
  | f :: fs => match f.name == "_", fieldsE P cs ds fs with
    | false, some r => match cs[f.offset]?, ds[f.offset]?, P.underlying f.type with
      | some (.int k a), some (.int k' b), some (.int _) => bif decide (k = k') then some ((a == b) && r) else none
      | some (.bool a), some (.bool b), some .bool => some ((a == b) && r)
      | _, _, _ => none
    | _, _ => none
def aggE (P : Program) (t : TypeId) (cs ds : List AV) : Option Bool :=
  match P.underlying t, P.stoodInHeld t, P.eqGuardType P.depth t with
  | some (.struct fs), false, false => fieldsE P cs ds fs.toList
  | _, _, _ => none
theorem fields_run {m : Nam} {cs ds : List AV} {xs ys : Array Value} (hx : CR m cs xs.toList) (hy : CR m ds ys.toList) (d : Nat) (w : World) : ∀ (fs : List Field) (b : Bool), fieldsE P cs ds fs = some b → (Op.eqFields (d + 1) xs ys fs).run P w = .ok b w := by
  intro fs
  induction fs with
  | nil => intro b h; simp only [fieldsE, Option.some.injEq] at h; subst h; simp [Op.eqFields]
  | cons f fs ih =>
    intro b h
    simp only [fieldsE] at h
    split at h
    · rename_i r hn hr
      have hname : f.name ≠ "_" := by simpa using hn
      have cell : ∀ {zs : Array Value} {es : List AV} {v : AV}, CR m es zs.toList → es[f.offset]? = some v → ∃ y, zs[f.offset]? = some y ∧ VR m v y := fun {zs es v} hc hv => by
        obtain ⟨y, y1, y2⟩ := hc.at hv
        exact ⟨y, by simpa using y1, y2⟩
      split at h
      · rename_i k a k' b' ku h1 h2 hu
        cases hk : decide (k = k') with
        | false => rw [hk] at h; cases h
        | true =>
          rw [hk] at h
          have hkk : k = k' := by simpa using hk
          subst hkk
          simp only [cond_true, Option.some.injEq] at h
          subst h
          obtain ⟨x, x1, x2⟩ := cell hx h1
          obtain ⟨y, y1, y2⟩ := cell hy h2
          have := int_real x2; subst this
          have := int_real y2; subst this
          have p1 : (part f.type xs f.offset).run P w = .ok (.int k a) w := by simp [part, isAgg_run (show isAgg P f.type = some false by simp [isAgg, hu]), x1]
          have p2 : (part f.type ys f.offset).run P w = .ok (.int k b') w := by simp [part, isAgg_run (show isAgg P f.type = some false by simp [isAgg, hu]), y1]
          simp only [Op.eqFields, if_pos hname, Sem.run_bind, p1, p2, Result.andThen_ok, run_equalIn_int w d f.type k ku a b' hu, Sem.run_ite]
          cases a == b' <;> simp [ih r hr]
      · rename_i a b' h1 h2 hu
        simp only [Option.some.injEq] at h
        subst h
        obtain ⟨x, x1, x2⟩ := cell hx h1
        obtain ⟨y, y1, y2⟩ := cell hy h2
        have := bool_real x2; subst this
        have := bool_real y2; subst this
        have p1 : (part f.type xs f.offset).run P w = .ok (.bool a) w := by simp [part, isAgg_run (show isAgg P f.type = some false by simp [isAgg, hu]), x1]
        have p2 : (part f.type ys f.offset).run P w = .ok (.bool b') w := by simp [part, isAgg_run (show isAgg P f.type = some false by simp [isAgg, hu]), y1]
        simp only [Op.eqFields, if_pos hname, Sem.run_bind, p1, p2, Result.andThen_ok, run_equalIn_bool w d f.type a b' hu, Sem.run_ite]
        cases a == b' <;> simp [ih r hr]
      · cases h
    · cases h
theorem agg_run {m : Nam} {t : TypeId} {cs ds : List AV} {xs ys : Array Value} {b : Bool} (hx : CR m cs xs.toList) (hy : CR m ds ys.toList) (h : aggE P t cs ds = some b) (w : World) :
    (Op.equal t (.agg xs) (.agg ys)).run P w = .ok b w ∧ P.eqGuardType P.depth t = false := by
  unfold aggE at h
  split at h
  · rename_i fs hu hs hg
    have hf : P.fieldsOf t = fs := by simp [Program.fieldsOf, hu]
    refine ⟨?_, hg⟩
    show (Op.equalIn 10000 t (.agg xs) (.agg ys)).run P w = _
    rw [run_equalIn_struct w 9999 t xs ys (by rw [hf]; exact hu) hs, hf]
    exact fields_run hx hy 9998 w _ _ h
  · cases h
/-- A comparison with nil of what is not nil; of structs of numbers. -/
def cmpE (P : Program) (op : BinOp) (t : TypeId) (x y : AV) : Option Bool :=
  match op with
  | .eql => match P.underlying t, x, y with
    | some (.pointer _), .ptr (some _), .ptr none => some false
    | some (.pointer _), .ptr none, .ptr (some _) => some false
    | some (.slice _), .slice _ _ _ _, .nils => some false
    | some (.slice _), .nils, .slice _ _ _ _ => some false
    | some (.interface _), .iface _ _, .nilIface => some false
    | some (.interface _), .nilIface, .iface _ _ => some false
    | _, .agg cs, .agg ds => aggE P t cs ds
    | _, _, _ => none
  | .neq => match P.underlying t, x, y with
    | some (.pointer _), .ptr (some _), .ptr none => some true
    | some (.pointer _), .ptr none, .ptr (some _) => some true
    | some (.slice _), .slice _ _ _ _, .nils => some true
    | some (.slice _), .nils, .slice _ _ _ _ => some true
    | some (.interface _), .iface _ _, .nilIface => some true
    | some (.interface _), .nilIface, .iface _ _ => some true
    | _, .agg cs, .agg ds => (aggE P t cs ds).map (!·)
    | _, _, _ => none
  | _ => none
theorem equal_run {t : TypeId} {x y : Value} {b : Bool} (w : World) (h : ∀ d, (Op.equalIn (d + 1) t x y).run P w = .ok b w) : (Op.equal t x y).run P w = .ok b w := h 9999
theorem nilEq_run {t : TypeId} {x y : AV} {b : Bool} {ax ay : Value} (hx : VR m x ax) (hy : VR m y ay) (hc : cmpE P .eql t x y = some b) (w : World) :
    (Op.equal t ax ay).run P w = .ok b w ∧ (∀ z w', (eqGuard .eql t z w' ax ay).run P w = .ok () w) ∧ (∀ z w', (eqGuard .neq t z w' ax ay).run P w = .ok () w) ∧ Go.binOp .eql t ax ay = (do pure (.bool (← Op.equal t ax ay))) ∧ Go.binOp .neq t ax ay = (do pure (.bool (!(← Op.equal t ax ay)))) := by
  simp only [cmpE] at hc
  split at hc <;> first
    | (cases hc; done)
    | (cases hx with
       | agg cs xs hl hx =>
         cases hy with
         | agg ds ys hl' hy =>
           have ha := fun w => agg_run (P := P) (t := t) (xs := ⟨xs⟩) (ys := ⟨ys⟩) ⟨hl, hx⟩ ⟨hl', hy⟩ hc w
           exact ⟨(ha w).1, fun z w' => run_eqGuard_agg w .eql t z w' _ _ (ha w).2, fun z w' => run_eqGuard_agg w .neq t z w' _ _ (ha w).2, rfl, rfl⟩)
    | (rename_i hu
       cases hc
       cases hx; cases hy
       exact ⟨equal_run w fun d => by simp [Op.equalIn, run_underlying hu], fun z w' => by simp [eqGuard], fun z w' => by simp [eqGuard], rfl, rfl⟩)
theorem cmp_neq {t : TypeId} {x y : AV} {b : Bool} (h : cmpE P .neq t x y = some b) : cmpE P .eql t x y = some (!b) := by
  simp only [cmpE] at h ⊢
  split at h <;> first
    | (cases h; done)
    | (cases h; simp [*])
    | (obtain ⟨c, hc, rfl⟩ := Option.map_eq_some_iff.1 h; simp [hc])
theorem cmp_run {op : BinOp} {t yt : TypeId} {x y : Operand} {b : Bool} (T : TR m ts a) (ho : o.op = .binOp op t x y yt) (hc : cmpE P op t (evA ts x) (evA ts y) = some b) (w : World) : (execOp a.eval o).run P w = .ok (.value (.bool b)) w := by
  have hx := T.eval x
  have hy := T.eval y
  cases op with
  | eql =>
    obtain ⟨q1, q2, q3, q4, q5⟩ := nilEq_run hx hy hc w
    simp only [execOp, ho, Sem.run_bind, q2, Result.andThen_ok, q4, q1, Sem.run_pure]
  | neq =>
    obtain ⟨q1, q2, q3, q4, q5⟩ := nilEq_run hx hy (cmp_neq hc) w
    simp only [execOp, ho, Sem.run_bind, q3, Result.andThen_ok, q5, q1, Sem.run_pure, Bool.not_not]
  | _ => simp [cmpE] at hc
theorem cmp_ok {K : KD R} {U : Nat → Prop} {base : Nat} {h : Gt} {op : BinOp} {t yt : TypeId} {x y : Operand} {b : Bool} (H : HR m U h w) (T : TR m ts a) (ho : o.op = .binOp op t x y yt) (hc : cmpE P op t (evA ts x) (evA ts y) = some b) (hk : K (.bool b) .same = some r) : Out P K r m U base h w o a :=
  Out.same H hk (.bool b) (cmp_run T ho hc w)

/-- The free families when those from b0 to base are given. -/
def above (U : Nat → Prop) (b0 base : Nat) : Nat → Prop := fun f => U f ∧ (f < b0 ∨ base ≤ f)
/-- What is there later: what is dead stays so; what was not written is what it was. -/
def FamLe (F F' : Fam) : Prop := ∀ i, (F.get i = none → F'.get i = none) ∧ ∀ B B', F.get i = some B → F'.get i = some B' → B.st ≤ B'.st ∧ (B'.st = B.st → B' = B)
def Keeps (h h' : Heap) : Prop := ∀ f F, fam h f = some F → ∃ F', fam h' f = some F' ∧ FamLe F F'
theorem FamLe.refl (F : Fam) : FamLe F F := fun i => ⟨fun h => h, fun B B' h h' => by rw [h] at h'; cases h'; exact ⟨Nat.le_refl _, fun _ => rfl⟩⟩
theorem FamLe.trans {F G H : Fam} (a : FamLe F G) (b : FamLe G H) : FamLe F H := fun i => ⟨fun h => (b i).1 ((a i).1 h), fun B B' h h' => by
  cases hg : G.get i with
  | none => rw [(b i).1 hg] at h'; cases h'
  | some B1 =>
    obtain ⟨p1, p2⟩ := (a i).2 B B1 h hg
    obtain ⟨q1, q2⟩ := (b i).2 B1 B' hg h'
    refine ⟨Nat.le_trans p1 q1, fun e => ?_⟩
    have e1 : B1.st = B.st := by omega
    have e2 : B'.st = B1.st := by omega
    rw [q2 e2, p2 e1]⟩
theorem Keeps.refl (h : Heap) : Keeps h h := fun f F e => ⟨F, e, .refl F⟩
theorem Keeps.trans {a b c : Heap} (p : Keeps a b) (q : Keeps b c) : Keeps a c := fun f F e => by
  obtain ⟨F', e', l⟩ := p f F e
  obtain ⟨F2, e2, l2⟩ := q f F' e'
  exact ⟨F2, e2, l.trans l2⟩
theorem Keeps.get {h h' : Heap} (k : Keeps h h') {n : Nm} {B B' : Blk} (e : get h n = some B) (e' : get h' n = some B') (es : B'.st = B.st) : B' = B := by
  unfold Ev.get at e e'
  split at e
  · rename_i F hF
    obtain ⟨F', hF', l⟩ := k _ F hF
    rw [hF'] at e'
    exact ((l n.idx).2 B B' e e').2 es
  · cases e
def newOk (h : Heap) (base : Nat) : Dl → Bool
  | .new _ => (fam h base).isNone
  | .grow _ _ => (fam h base).isNone
  | _ => true
/-- Goes on in one way alone. -/
def OneWay (s : Spec R) : Prop := ∀ h base args, ∃ q : Option (AV × Heap × Nat), (∀ K, s h base args K = q.bind fun p => K p.1 p.2.1 p.2.2) ∧ ∀ p, q = some p → Keeps h p.2.1
/-- A function's contract over the evaluator's store. -/
def SoundSpec (P : Program) (f : FuncId) (s : Spec R) : Prop :=
  (∃ fn, P.funcs[f]? = some fn ∧ fn.body.isNone = false ∧ (fn.name == "runtime.NumGoroutine") = false) ∧ OneWay s ∧
  ∀ m (U : Nat → Prop) h base w args (xs : Array Value) K r, (∀ f, base ≤ f → U f) → HR m U (get h) w → CR m args xs.toList → s h base args K = some r →
    Calls P f xs w fun e w' => ∃ v x h' b' m', e = .returned x ∧ K v h' b' = some r ∧ base ≤ b' ∧ Tr m (get h) w m' (get h') w' ∧ HR m' (above U base b') (get h') w' ∧ VR m' v x
abbrev Specs (R : Type) := FuncId → Option (Spec R)
/-- A function without a body, whose value is told by its arguments. -/
def SoundX (P : Program) (f : FuncId) (s : Spec R) : Prop := OneWay s ∧
  ∀ m h base w args (xs : Array Value) K r, CR m args xs.toList → s h base args K = some r → ∃ v y, K v h base = some r ∧ VR m v y ∧ (callFunc f xs).run P w = .ok (.value y) w
def Sound (P : Program) (D : Specs R) : Prop := ∀ f s, D f = some s → SoundSpec P f s ∨ SoundX P f s

def builtinE (P : Program) (g : Gt) (base : Nat) (ts : List AV) (o : Oper) (c : Go.Call) (K : KD R) : Option R :=
  match c.callee with
  | .builtin .len => match c.args.toList, c.argTypes[0]? with
    | [x], some t => lenE P t (evA ts x) fun v => K v .same
    | _, _ => none
  | .builtin .append => match c.args.toList, c.argTypes[0]?, c.argTypes[1]? with
    | [s, x], some st, some xt => appendD P g base st xt (evA ts s) (evA ts x) K
    | _, _, _ => none
  | .builtin .copy => match c.args.toList, c.argTypes[0]? with
    | [d, s], some dt => copyD P g dt (evA ts d) (evA ts s) K
    | _, _ => none
  | .builtin _ => plainE P ts o fun v => K v .same
  | _ => none
/-- An operation that is no call of a function. -/
def evD (P : Program) (g : Gt) (base : Nat) (ts : List AV) (o : Oper) (K : KD R) : Option R :=
  match o.op with
  | .move x => K (evA ts x) .same
  | .assign x => K (evA ts x) .same
  | .pick c x y => pickE ts c x y fun v => K v .same
  | .load t x => match evA ts x with
    | .ptr (some p) => loadE P g t p fun v => K v .same
    | _ => none
  | .store t x y => match evA ts x with
    | .ptr (some p) => storeE P g t p (evA ts y) fun d => K (.tuple []) d
    | _ => none
  | .alloc t => zeroL P t fun cs => newD base cs K
  | .box t x => newD base (evA ts x).cells K
  | .build t ps => buildE P t (partsE ts ps) fun v => K v .same
  | .buildSlice t n ps => buildSliceD P base t n (partsE ts ps) K
  | .nilCheck x => nilCheckE (evA ts x) fun v => K v .same
  | .fieldAddr s x f => fieldAddrE P s f (evA ts x) fun v => K v .same
  | .indexAddr t x ix => indexAddrE P g t (evA ts x) (evA ts ix) fun v => K v .same
  | .slice t x lo hi mx => match evA ts x with
    | .str _ => plainE P ts o fun v => K v .same
    | _ => sliceE P g t (evA ts x) (lo.map (evA ts)) (hi.map (evA ts)) (mx.map (evA ts)) fun v => K v .same
  | .makeSlice t l c => makeSliceD P base t (evA ts l) (evA ts c) K
  | .extract x i => extractE i (evA ts x) fun v => K v .same
  | .field t x f => fieldE P t f (evA ts x) fun v => K v .same
  | .index t x ix => match evA ts x with
    | .agg _ => indexE P t (evA ts x) (evA ts ix) fun v => K v .same
    | _ => plainE P ts o fun v => K v .same
  | .makeInterface t x => makeInterfaceE P t (evA ts x) fun v => K v .same
  | .binOp op t x y _ => match cmpE P op t (evA ts x) (evA ts y) with
    | some b => K (.bool b) .same
    | none => plainE P ts o fun v => K v .same
  | .convert s d x => match evA ts x with
    | .slice _ _ _ _ => bstrE P g s d (evA ts x) fun v => K v .same
    | .eslice => bstrE P g s d (evA ts x) fun v => K v .same
    | _ => plainE P ts o fun v => K v .same
  | .call c => builtinE P g base ts o c K
  | _ => plainE P ts o fun v => K v .same
/-- What goes on with the store as the operation leaves it. -/
def onD (h : Heap) (base : Nat) (K : Kont R) : KD R := fun v d => bif newOk h base d then K v (d.app h base) (d.nxt base) else none
def callee (o : Oper) : Option (Go.Call × Operand) :=
  match o.op with
  | .call c => match c.callee with
    | .value f => some (c, f)
    | _ => none
  | _ => none
def evOp (P : Program) (D : Specs R) (ts : List AV) (h : Heap) (base : Nat) (o : Oper) (K : Kont R) : Option R :=
  match callee o with
  | some (c, f) => match evA ts f with
    | .func g => match D g with
      | some s => s h base (c.args.toList.map (evA ts)) K
      | none => none
    | _ => none
  | none => evD P (get h) base ts o (onD h base K)

theorem evD_ok {K : KD R} {U : Nat → Prop} {base : Nat} {h : Gt} (H : HR m U h w) (hU : U base) (T : TR m ts a) (hk : evD P h base ts o K = some r) : Out P K r m U base h w o a := by
  unfold evD at hk
  split at hk
  · rename_i x ho; exact move_ok H T (.inl ho) hk
  · rename_i x ho; exact move_ok H T (.inr ho) hk
  · rename_i c x y ho; exact pick_ok H T ho hk
  · rename_i t x ho
    split at hk
    · rename_i p hp; exact load_ok H T ho hp hk
    · cases hk
  · rename_i t x y ho
    split at hk
    · rename_i p hp; exact store_ok H T ho hp hk
    · cases hk
  · rename_i t ho; exact alloc_ok H hU ho hk
  · rename_i t x ho; exact box_ok H hU T ho hk
  · rename_i t ps ho; exact build_ok H T ho hk
  · rename_i t n ps ho; exact buildSlice_ok H hU T ho hk
  · rename_i x ho; exact nilCheck_ok H T ho hk
  · rename_i s x f ho; exact fieldAddr_ok H T ho hk
  · rename_i t x ix ho; exact indexAddr_ok H T ho hk
  · rename_i t x lo hi mx ho
    split at hk
    · exact plain_sound H T hk
    · exact slice_ok H T ho hk
  · rename_i t l c ho; exact makeSlice_ok H hU T ho hk
  · rename_i x i ho; exact extract_ok H T ho hk
  · rename_i t x f ho; exact field_ok H T ho hk
  · rename_i t x ix ho
    split at hk
    · exact index_ok H T ho hk
    · exact plain_sound H T hk
  · rename_i t x ho; exact makeInterface_ok H T ho hk
  · rename_i op t x y yt ho
    split at hk
    · rename_i b hc; exact cmp_ok H T ho hc hk
    · exact plain_sound H T hk
  · rename_i s d x ho
    split at hk
    · exact bstr_ok H T ho hk
    · exact bstr_ok H T ho hk
    · exact plain_sound H T hk
  · rename_i c ho
    unfold builtinE at hk
    split at hk
    · rename_i hb
      split at hk
      · rename_i x t ha h0; exact len_ok H T ho hb ha h0 hk
      · cases hk
    · rename_i hb
      split at hk
      · rename_i s x st xt ha h0 h1; exact append_ok H hU T ho hb ha h0 h1 hk
      · cases hk
    · rename_i hb
      split at hk
      · rename_i d s dt ha h0; exact copy_ok H T ho hb ha h0 hk
      · cases hk
    · exact plain_sound H T hk
    · cases hk
  · exact plain_sound H T hk

/-- What an operation writes stands in the store as it is kept. -/
theorem get_app (h : Heap) (base : Nat) (d : Dl) (hp : Fits (get h) d) : get (d.app h base) = d.on base (get h) := by
  funext k
  cases d with
  | same => rfl
  | new B => show get (add h base B) k = gadd (get h) base B k; rw [get_add, gget_add]
  | put n B =>
    show get (set h n B) k = gset (get h) n B k
    rw [get_set, gget_set]
    split
    · obtain ⟨B0, hB, _⟩ := hp n B rfl; rw [hB]; rfl
    · rfl
  | grow n B =>
    rw [grow_on]
    show get (add (kill h n) base B) k = _
    rw [get_add, gget_add, get_kill, gget_kill]
theorem set_le {F : Fam} {i : Nat} {B0 B : Blk} (h : F.get i = some B0) (hs : B0.st < B.st) : FamLe F (F.set i B) := by
  intro k
  rw [Fam.get_set]
  by_cases hk : k = i
  · subst hk
    rw [if_pos rfl, h]
    exact ⟨fun e => (by cases e), fun B1 B2 e1 e2 => by cases e1; cases e2; exact ⟨Nat.le_of_lt hs, fun e => absurd (show B.st = B0.st from e) (by omega)⟩⟩
  · rw [if_neg hk]; exact FamLe.refl F k
theorem kill_le (F : Fam) (i : Nat) : FamLe F (F.kill i) := by
  intro k
  rw [Fam.get_kill]
  by_cases hk : k = i
  · rw [if_pos hk]; exact ⟨fun _ => rfl, fun B1 B2 e1 e2 => (by cases e2)⟩
  · rw [if_neg hk]; exact FamLe.refl F k
theorem add_keeps {h : Heap} {base : Nat} (B : Blk) (hn : (fam h base).isNone = true) : Keeps h (add h base B) := by
  intro f F e
  refine ⟨F, ?_, .refl F⟩
  simp only [add, fam, sel_eq, beq_cond]
  split
  · rename_i hb; rw [hb, e] at hn; cases hn
  · exact e
theorem kill_keeps (h : Heap) (n : Nm) : Keeps h (kill h n) := by
  intro f F e
  unfold kill
  rw [fam_upd]
  split
  · rw [e]; exact ⟨_, rfl, kill_le F n.idx⟩
  · exact ⟨F, e, .refl F⟩
theorem app_keeps {h : Heap} {base : Nat} {d : Dl} (hf : Fits (get h) d) (hn : newOk h base d = true) : Keeps h (d.app h base) := by
  cases d with
  | same => exact .refl h
  | new B => exact add_keeps B hn
  | put n B =>
    obtain ⟨B0, hB, hs⟩ := hf n B rfl
    intro f F e
    show ∃ F', fam (set h n B) f = some F' ∧ _
    unfold set
    rw [fam_upd]
    split
    · rename_i hk
      rw [e]
      refine ⟨_, rfl, set_le (B0 := B0) ?_ hs⟩
      subst hk
      unfold get at hB
      rw [e] at hB
      exact hB
    · exact ⟨F, e, .refl F⟩
  | grow n B =>
    refine (kill_keeps h n).trans (add_keeps B ?_)
    simp only [newOk] at hn
    unfold kill
    rw [fam_upd]
    split
    · rename_i hk; cases hq : fam h base with
      | none => rfl
      | some F => rw [hq] at hn; cases hn
    · exact hn
/-- What stands behind an operation: its value is put, and it goes on. -/
def Next (U : Nat → Prop) (b0 : Nat) (m : Nam) (h : Heap) (w : World) (K : Kont R) (r : R) (o : Oper) (a : Act) (next : Act → World → Prop) : Prop :=
  ∀ v y h' b' m' w', K v h' b' = some r → b0 ≤ b' → Tr m (get h) w m' (get h') w' → HR m' (above U b0 b') (get h') w' → VR m' v y → next (a.put o.dst y) w'
theorem nxt_le {base : Nat} {d : Dl} : base ≤ d.nxt base := by cases d <;> simp only [Dl.nxt] <;> omega
theorem left_above {U : Nat → Prop} {b0 base : Nat} {d : Dl} (hb : b0 ≤ base) : ∀ f, above U b0 (d.nxt base) f → d.left (above U b0 base) base f := by
  intro f hf
  have := nxt_le (base := base) (d := d)
  refine ⟨⟨hf.1, ?_⟩, fun e => ?_⟩
  · rcases hf.2 with h | h
    · exact .inl h
    · exact .inr (by omega)
  · rcases hf.2 with h | h <;> omega
theorem Out.wp {U : Nat → Prop} {b0 : Nat} {K : Kont R} {h : Heap} {base : Nat} {next : Act → World → Prop} {Q : Exit → Act → World → Prop} (hb : b0 ≤ base) (O : Out P (onD h base K) r m (above U b0 base) base (get h) w o a) (N : Next U b0 m h w K r o a next) : o.wp P a w next Q := by
  obtain ⟨v, d, y, m', w', q1, q0, q2, q3, q4, q5⟩ := O
  have q1 : K v (d.app h base) (d.nxt base) = some r := by
    unfold onD at q1
    cases hn : newOk h base d with
    | false => rw [hn] at q1; cases q1
    | true => rw [hn] at q1; exact q1
  have e := get_app h base d q0
  rw [← e] at q2 q3
  have N' := N v y (d.app h base) (d.nxt base) m' w' q1 (Nat.le_trans hb nxt_le) q2 (q3.anti (left_above hb)) q4
  unfold Oper.wp
  rcases q5 with q5 | ⟨q5, q6⟩
  · rw [q5, Oper.upon_value]; exact N'
  · rw [q5, Oper.upon_skip, ← q6]; exact N'
theorem call_core {U : Nat → Prop} {K : Kont R} {h : Heap} {base : Nat} {D : Specs R} (hD : Sound P D) {next : Act → World → Prop} {Q : Exit → Act → World → Prop} (hU : ∀ f, base ≤ f → U f) (H : HR m U (get h) w) (T : TR m ts a) {c : Go.Call} {f : Operand} {g : FuncId} {s : Spec R} (ho : o.op = .call c) (hc : c.callee = .value f) (hf : evA ts f = .func g) (hs : D g = some s)
    (hk : s h base (c.args.toList.map (evA ts)) K = some r) (N : ∀ v y h' b' m' w', K v h' b' = some r → base ≤ b' → Tr m (get h) w m' (get h') w' → HR m' (above U base b') (get h') w' → VR m' v y → next (a.put o.dst y) w') : o.wp P a w next Q := by
  have hfv := T.eval f
  rw [hf] at hfv
  have ef : a.eval f = .func (.func g) #[] #[] := by
    generalize a.eval f = y at hfv
    cases hfv; rfl
  have hargs : CR m (c.args.toList.map (evA ts)) (c.args.map a.eval).toList := by
    refine CR.of (by simp) fun i v hv => ?_
    rw [List.getElem?_map] at hv
    cases hq : c.args.toList[i]? with
    | none => rw [hq] at hv; cases hv
    | some x =>
      rw [hq] at hv
      simp only [Option.map_some, Option.some.injEq] at hv
      subst hv
      exact ⟨a.eval x, by simp [Array.toList_map, List.getElem?_map, hq], T.eval x⟩
  rcases hD g s hs with ⟨⟨fn, f1, f2, f3⟩, _, hS⟩ | ⟨_, hX⟩
  · have hrun : (execOp a.eval o).run P w = .ok (.enter g (c.args.map a.eval)) w := by
      simp only [execOp, ho, resolve, hc, ef, Deferred.ofValue, Sem.run_bind, Sem.run_pure, Result.andThen_ok, invoke, callFunc, run_program, f1, f2, f3, Bool.false_eq_true, if_false]
      simp
    unfold Oper.wp
    rw [hrun, Oper.upon_enter]
    refine Calls.mono (hS m U h base w _ _ K r hU H hargs hk) fun e w' he => ?_
    obtain ⟨v, x, h', b', m', rfl, q1, q0, q2, q3, q4⟩ := he
    exact N v x h' b' m' w' q1 q0 q2 q3 q4
  · obtain ⟨v, y, x1, x2, x3⟩ := hX m h base w _ _ K r hargs hk
    have hrun : (execOp a.eval o).run P w = .ok (.value y) w := by
      simp only [execOp, ho, resolve, hc, ef, Deferred.ofValue, Sem.run_bind, Sem.run_pure, Result.andThen_ok, invoke]
      simpa using x3
    unfold Oper.wp
    rw [hrun, Oper.upon_value]
    exact N v y h base m w x1 (Nat.le_refl _) (Tr.refl m (get h) w) (H.anti fun f hf => hf.1) x2
theorem call_wp {U : Nat → Prop} {b0 : Nat} (hU : ∀ f, b0 ≤ f → U f) {K : Kont R} {h : Heap} {base : Nat} (hb : b0 ≤ base) {D : Specs R} (hD : Sound P D) {next : Act → World → Prop} {Q : Exit → Act → World → Prop} (H : HR m (above U b0 base) (get h) w) (T : TR m ts a) {c : Go.Call} {f : Operand} {g : FuncId} {s : Spec R} (ho : o.op = .call c) (hc : c.callee = .value f) (hf : evA ts f = .func g) (hs : D g = some s)
    (hk : s h base (c.args.toList.map (evA ts)) K = some r) (N : Next U b0 m h w K r o a next) : o.wp P a w next Q :=
  call_core hD (fun f hf => ⟨hU f (Nat.le_trans hb hf), .inr hf⟩) H T ho hc hf hs hk fun v y h' b' m' w' q1 q0 q2 q3 q4 => by
    refine N v y h' b' m' w' q1 (Nat.le_trans hb q0) q2 (q3.anti fun f hf => ⟨⟨hf.1, ?_⟩, ?_⟩) q4
    · rcases hf.2 with h | h
      · exact .inl h
      · exact .inr (Nat.le_trans q0 h)
    · rcases hf.2 with h | h
      · exact .inl (Nat.lt_of_lt_of_le h hb)
      · exact .inr h
theorem callee_spec {c : Go.Call} {f : Operand} (hc : callee o = some (c, f)) : o.op = .call c ∧ c.callee = .value f := by
  unfold callee at hc
  split at hc
  · rename_i c' ho
    split at hc
    · rename_i f' hf; cases hc; exact ⟨ho, hf⟩
    · cases hc
  · cases hc

theorem op_wp {U : Nat → Prop} {b0 : Nat} (hU : ∀ f, b0 ≤ f → U f) {K : Kont R} {h : Heap} {base : Nat} (hb : b0 ≤ base) {D : Specs R} (hD : Sound P D) {next : Act → World → Prop} {Q : Exit → Act → World → Prop} (H : HR m (above U b0 base) (get h) w) (T : TR m ts a) (hk : evOp P D ts h base o K = some r) (N : Next U b0 m h w K r o a next) : o.wp P a w next Q := by
  unfold evOp at hk
  split at hk
  · rename_i c f hc
    have hcc := callee_spec hc
    split at hk
    · rename_i g hf
      split at hk
      · rename_i s hs; exact call_wp hU hb hD H T hcc.1 hcc.2 hf hs hk N
      · cases hk
    · cases hk
  · exact (evD_ok H ⟨hU base hb, .inr (Nat.le_refl base)⟩ T hk).wp hb N

abbrev KS (R : Type) := List AV → Heap → Nat → Option R
def evL (P : Program) (D : Specs R) (ops : Array Oper) : List Oper → List AV → Heap → Nat → KS R → Option R
  | [], ts, h, b, K => K ts h b
  | o :: rest, ts, h, b, K =>
    match o.guard with
    | none => evOp P D ts h b o fun v h' b' => evL P D ops rest (putD ts o.dst v) h' b' K
    | some (j, want) => match (ops[j]?).bind (·.dst) with
      | some d => match nth ts d with
        | .bool t => bif t then
            (match want with
            | true => evOp P D (putAt ts d (.bool true)) h b o fun v h' b' => evL P D ops rest (putD (putAt ts d (.bool true)) o.dst v) h' b' K
            | false => evL P D ops rest (putD (putAt ts d (.bool true)) o.dst (.tuple [])) h b K)
          else
            (match want with
            | false => evOp P D (putAt ts d (.bool false)) h b o fun v h' b' => evL P D ops rest (putD (putAt ts d (.bool false)) o.dst v) h' b' K
            | true => evL P D ops rest (putD (putAt ts d (.bool false)) o.dst (.tuple [])) h b K)
        | .tuple _ => evL P D ops rest (putD ts o.dst (.tuple [])) h b K
        | _ => none
      | none => none
theorem putAt_same : ∀ (ts : List AV) (d : Nat) (v : AV), nth ts d = v → putAt ts d v = ts
  | [], d, v, h => rfl
  | x :: t, 0, v, h => by simp only [nth_nil, nth_zero, nth_succ] at h; simp [putAt_nil, putAt_zero, putAt_succ, h]
  | x :: t, d + 1, v, h => by simp only [nth_nil, nth_zero, nth_succ] at h; simp [putAt_nil, putAt_zero, putAt_succ, putAt_same t d v h]
theorem undef_vr (m : Nam) : VR m (.tuple []) undef := .tuple [] [] rfl fun i h => by simp at h
theorem wanted_bool (T : TR m ts a) {ops : Array Oper} {j d : Nat} {want t : Bool} (hg : o.guard = some (j, want)) (hd : (ops[j]?).bind (·.dst) = some d) (ht : nth ts d = .bool t) : Region.wanted o (yielded ops a.tmps) = (t == want) := by
  have hv : a.tmps[d]? = some (.bool t) := by
    rw [nth_eq] at ht
    by_cases hlt : d < ts.length
    · rw [List.getElem?_eq_getElem hlt] at ht
      have h1 := T.2 d hlt (T.1 ▸ hlt)
      simp only [Option.getD_some] at ht
      rw [ht] at h1
      have h2 := bool_real h1
      rw [Array.getElem?_eq_getElem (T.1 ▸ hlt), h2]
    · rw [List.getElem?_eq_none (Nat.le_of_not_lt hlt)] at ht; cases ht
  simp only [Region.wanted, hg, yielded, hd, Option.bind_some, hv]
  cases t <;> cases want <;> rfl
theorem wanted_skip (T : TR m ts a) {ops : Array Oper} {j d : Nat} {want : Bool} {cs : List AV} (hg : o.guard = some (j, want)) (hd : (ops[j]?).bind (·.dst) = some d) (ht : nth ts d = .tuple cs) : Region.wanted o (yielded ops a.tmps) = false := by
  have hv : ∃ xs, a.tmps[d]? = some (.tuple xs) := by
    rw [nth_eq] at ht
    by_cases hlt : d < ts.length
    · rw [List.getElem?_eq_getElem hlt] at ht
      have h1 := T.2 d hlt (T.1 ▸ hlt)
      simp only [Option.getD_some] at ht
      rw [ht] at h1
      have hlt2 : d < a.tmps.size := T.1 ▸ hlt
      rw [Array.getElem?_eq_getElem hlt2]
      generalize a.tmps[d]'hlt2 = y at h1 ⊢
      cases h1 with
      | tuple cs xs hl hx => exact ⟨⟨xs⟩, rfl⟩
    · rw [List.getElem?_eq_none (Nat.le_of_not_lt hlt)] at ht; cases ht
  obtain ⟨xs, hv⟩ := hv
  simp [Region.wanted, hg, yielded, hd, hv]
theorem list_wp {U : Nat → Prop} {b0 : Nat} (hU : ∀ f, b0 ≤ f → U f) {h : Heap} {D : Specs R} (hD : Sound P D) {Q : Exit → Act → World → Prop} {ops : Array Oper} {KK : KS R} (hQ : ∀ ts' h' b' a' m' w', KK ts' h' b' = some r → b0 ≤ b' → Tr m (get h) w m' (get h') w' → HR m' (above U b0 b') (get h') w' → TR m' ts' a' → a'.defers = ds → Q .normal a' w') :
    ∀ (l : List Oper) (ts : List AV) (h1 : Heap) (b1 : Nat) (a1 : Act) (m1 : Nam) (w1 : World), b0 ≤ b1 → Tr m (get h) w m1 (get h1) w1 → HR m1 (above U b0 b1) (get h1) w1 → TR m1 ts a1 → a1.defers = ds → evL P D ops l ts h1 b1 KK = some r → wpList P ops Q l a1 w1 := by
  intro l
  induction l with
  | nil => intro ts h1 b1 a1 m1 w1 hb ht H T hd hk; exact hQ ts h1 b1 a1 m1 w1 hk hb ht H T hd
  | cons o rest ih =>
    intro ts h1 b1 a1 m1 w1 hb ht H T hd hk
    have hop : evOp P D ts h1 b1 o (fun v h' b' => evL P D ops rest (putD ts o.dst v) h' b' KK) = some r → o.wp P a1 w1 (wpList P ops Q rest) Q := fun hk =>
      op_wp hU hb hD H T hk fun v y h' b' m' w' q1 q0 q2 q3 q4 => ih _ h' b' _ m' w' q0 (ht.trans q2) q3 ((T.mono q2.ext).put q4 o.dst) (by cases o.dst <;> exact hd) q1
    simp only [evL] at hk
    simp only [wpList]
    split at hk
    · rename_i hg
      have hw : Region.wanted o (yielded ops a1.tmps) = true := by simp [Region.wanted, hg]
      rw [if_pos hw]
      exact .inl (hop hk)
    · rename_i j want hg
      split at hk
      · rename_i d hdst
        split at hk
        · rename_i t htt
          have hw := wanted_bool T hg hdst htt
          rw [hw]
          have hskip : evL P D ops rest (putD ts o.dst (.tuple [])) h1 b1 KK = some r → wpList P ops Q rest (a1.put o.dst undef) w1 := fun hk =>
            ih _ h1 b1 _ m1 w1 hb ht H (T.put (undef_vr m1) o.dst) (by cases o.dst <;> exact hd) hk
          cases t <;> cases want
          · simp only [cond_false, putAt_same _ _ _ htt] at hk; exact .inl (hop hk)
          · simp only [cond_false, putAt_same _ _ _ htt] at hk; exact hskip hk
          · simp only [cond_true, putAt_same _ _ _ htt] at hk; exact hskip hk
          · simp only [cond_true, putAt_same _ _ _ htt] at hk; exact .inl (hop hk)
        · rename_i cs htt
          rw [wanted_skip T hg hdst htt]
          exact ih _ h1 b1 _ m1 w1 hb ht H (T.put (undef_vr m1) o.dst) (by cases o.dst <;> exact hd) hk
        · cases hk
      · cases hk
end
end Go.Proofs.YtipigcgegmedeaaGreat.Ev
