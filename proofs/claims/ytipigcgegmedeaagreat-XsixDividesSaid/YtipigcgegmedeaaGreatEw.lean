/- A quick evaluator for closed calls: each operation a piece of its own. -/
import Derived.Test.YtipigcgegmedeaaGreatEv
namespace Go.Proofs.YtipigcgegmedeaaGreat.Ev
open Go
set_option linter.unusedVariables false
set_option linter.unusedSimpArgs false
noncomputable section
variable {R : Type} {P : Program}

abbrev ArmD (R : Type) := Program → (Operand → AV) → Gt → Nat → Oper → KD R → Option R
def plainQ (P : Program) (e : Operand → AV) (o : Oper) (K : AV → Option R) : Option R :=
  match o.op with
  | .select _ _ => none
  | _ =>
    bif o.op.operands.toList.all (fun x => (toV 3 (e x)).isSome) then
      match semE P (execOp (fun x => (toV 3 (e x)).getD undef) o) with
      | some (.value v) => K (ofV 3 v)
      | _ => none
    else none
theorem plainQ_eq (ts : List AV) (o : Oper) (K : AV → Option R) : plainQ P (evA ts) o K = plainE P ts o K := rfl
def movD (x : Operand) : ArmD R := fun P e g b o K => K (e x) .same
def pickD (c x y : Operand) : ArmD R := fun P e g b o K => match e c with
  | .bool t => bif t then K (e x) .same else K (e y) .same
  | _ => none
def loadD (t : TypeId) (x : Operand) : ArmD R := fun P e g b o K => match e x with
  | .ptr (some p) => loadE P g t p fun v => K v .same
  | _ => none
def storeD (t : TypeId) (x y : Operand) : ArmD R := fun P e g b o K => match e x with
  | .ptr (some p) => storeE P g t p (e y) fun d => K (.tuple []) d
  | _ => none
def allocD (t : TypeId) : ArmD R := fun P e g b o K => zeroL P t fun cs => newD b cs K
def boxD (x : Operand) : ArmD R := fun P e g b o K => newD b (e x).cells K
def buildD (t : TypeId) (ps : Array (Nat × Operand)) : ArmD R := fun P e g b o K => buildE P t (ps.toList.map fun p => (p.1, e p.2)) fun v => K v .same
def buildSD (t : TypeId) (n : Nat) (ps : Array (Nat × Operand)) : ArmD R := fun P e g b o K => buildSliceD P b t n (ps.toList.map fun p => (p.1, e p.2)) K
def nilD (x : Operand) : ArmD R := fun P e g b o K => nilCheckE (e x) fun v => K v .same
def fieldAD (s : TypeId) (x : Operand) (f : Nat) : ArmD R := fun P e g b o K => fieldAddrE P s f (e x) fun v => K v .same
def indexAD (t : TypeId) (x ix : Operand) : ArmD R := fun P e g b o K => indexAddrE P g t (e x) (e ix) fun v => K v .same
def sliceDQ (t : TypeId) (x : Operand) (lo hi mx : Option Operand) : ArmD R := fun P e g b o K => match e x with
  | .str _ => plainQ P e o fun v => K v .same
  | _ => sliceE P g t (e x) (lo.map e) (hi.map e) (mx.map e) fun v => K v .same
def makeSD (t : TypeId) (l c : Operand) : ArmD R := fun P e g b o K => makeSliceD P b t (e l) (e c) K
def extractD (x : Operand) (i : Nat) : ArmD R := fun P e g b o K => extractE i (e x) fun v => K v .same
def fieldDQ (t : TypeId) (x : Operand) (f : Nat) : ArmD R := fun P e g b o K => fieldE P t f (e x) fun v => K v .same
def indexDQ (t : TypeId) (x ix : Operand) : ArmD R := fun P e g b o K => match e x with
  | .agg _ => indexE P t (e x) (e ix) fun v => K v .same
  | _ => plainQ P e o fun v => K v .same
def makeID (t : TypeId) (x : Operand) : ArmD R := fun P e g b o K => makeInterfaceE P t (e x) fun v => K v .same
def binSlow (op : BinOp) (t : TypeId) (x y : Operand) : ArmD R := fun P e g b o K => match cmpE P op t (e x) (e y) with
  | some b => K (.bool b) .same
  | none => plainQ P e o fun v => K v .same
def binD (op : BinOp) (t : TypeId) (x y : Operand) : ArmD R := fun P e g b o K => match fastBin op (e x) (e y) with
  | some v => K v .same
  | none => binSlow op t x y P e g b o K
def intOf : TypeDesc → Option IntKind
  | .int k => some k
  | _ => none
def fastConv (P : Program) (s d : TypeId) (n : Int) : Option AV :=
  match P.underlying s with
  | some _ => match P.underlying d with
    | some u => match intOf u with
      | some k => some (.int k (wrapQ k n))
      | none => none
    | none => none
  | none => none
def convSlow (s d : TypeId) (x : Operand) : ArmD R := fun P e g b o K => match e x with
  | .slice _ _ _ _ => bstrE P g s d (e x) fun v => K v .same
  | .eslice => bstrE P g s d (e x) fun v => K v .same
  | _ => plainQ P e o fun v => K v .same
def convD (s d : TypeId) (x : Operand) : ArmD R := fun P e g b o K => match e x with
  | .int _ n => match fastConv P s d n with
    | some v => K v .same
    | none => convSlow s d x P e g b o K
  | _ => convSlow s d x P e g b o K
def lenD (c : Go.Call) : ArmD R := fun P e g b o K => match c.args.toList, c.argTypes[0]? with
  | [x], some t => lenE P t (e x) fun v => K v .same
  | _, _ => none
def appDQ (c : Go.Call) : ArmD R := fun P e g b o K => match c.args.toList, c.argTypes[0]?, c.argTypes[1]? with
  | [s, x], some st, some xt => appendD P g b st xt (e s) (e x) K
  | _, _, _ => none
def copDQ (c : Go.Call) : ArmD R := fun P e g b o K => match c.args.toList, c.argTypes[0]? with
  | [d, s], some dt => copyD P g dt (e d) (e s) K
  | _, _ => none
def plainD : ArmD R := fun P e g b o K => plainQ P e o fun v => K v .same
def noneD : ArmD R := fun P e g b o K => none
def builtD (c : Go.Call) : ArmD R :=
  match c.callee with
  | .builtin .len => lenD c
  | .builtin .append => appDQ c
  | .builtin .copy => copDQ c
  | .builtin _ => plainD
  | _ => noneD
def opD : Op → ArmD R
  | .move x => movD x
  | .assign x => movD x
  | .pick c x y => pickD c x y
  | .load t x => loadD t x
  | .store t x y => storeD t x y
  | .alloc t => allocD t
  | .box t x => boxD x
  | .build t ps => buildD t ps
  | .buildSlice t n ps => buildSD t n ps
  | .nilCheck x => nilD x
  | .fieldAddr s x f => fieldAD s x f
  | .indexAddr t x ix => indexAD t x ix
  | .slice t x lo hi mx => sliceDQ t x lo hi mx
  | .makeSlice t l c => makeSD t l c
  | .extract x i => extractD x i
  | .field t x f => fieldDQ t x f
  | .index t x ix => indexDQ t x ix
  | .makeInterface t x => makeID t x
  | .binOp op t x y _ => binD op t x y
  | .convert s d x => convD s d x
  | .call c => builtD c
  | _ => plainD
theorem fastConv_eq {s d : TypeId} {x : Operand} {v : AV} {ts : List AV} {o : Oper} {k : IntKind} {n : Int} (K : KD R) (ho : o.op = .convert s d x) (hx : evA ts x = .int k n) (h : fastConv P s d n = some v) : plainE P ts o (fun v => K v .same) = K v .same := by
  unfold fastConv at h
  split at h
  · rename_i us hus
    split at h
    · rename_i ud hud
      split at h
      · rename_i k' hk
        cases h
        have : ud = .int k' := by
          cases ud <;> simp [intOf] at hk
          rw [hk]
        subst this
        unfold plainE
        rw [ho]
        have hall : (Op.convert s d x).operands.toList.all (fun x => (toV 3 (evA ts x)).isSome) = true := by
          simp only [Op.operands]
          simp [hx, toV_int]
        simp only [hall, cond_true, execOp, ho, hx, toV_int, Option.getD_some]
        simp [Go.convert, underlying, program, bind, Sem.bind, pure, semE, hus, hud, Conv.intToInt, ofV, wrapQ_eq]
      · cases h
    · cases h
  · cases h
theorem opD_eq {ts : List AV} {o : Oper} {g : Gt} {base : Nat} {K : KD R} : opD o.op P (evA ts) g base o K = evD P g base ts o K := by
  unfold evD
  have hp : plainQ P (evA ts) o = plainE P ts o (R := R) := by funext K; exact plainQ_eq ts o K
  cases ho : o.op with
  | pick c x y => simp only [opD, pickD, pickE]; cases evA ts c <;> rfl
  | load t x =>
    simp only [opD, loadD]
    cases evA ts x with
    | ptr a => cases a <;> rfl
    | _ => rfl
  | store t x y =>
    simp only [opD, storeD]
    cases evA ts x with
    | ptr a => cases a <;> rfl
    | _ => rfl
  | slice t x lo hi mx => simp only [opD, sliceDQ, hp]; cases evA ts x <;> rfl
  | index t x ix => simp only [opD, indexDQ, hp]; cases evA ts x <;> rfl
  | binOp op t x y yt =>
    simp only [opD, binD]
    split
    · rename_i v hv
      have := fastBin_eq (P := P) (g := g) (base := base) K ho hv
      unfold evD at this
      rw [ho] at this
      exact this.symm
    · simp only [binSlow, hp]
      cases cmpE P op t (evA ts x) (evA ts y) <;> rfl
  | convert s d x =>
    have hs : convSlow s d x P (evA ts) g base o K = (match evA ts x with
      | .slice _ _ _ _ => bstrE P g s d (evA ts x) fun v => K v .same
      | .eslice => bstrE P g s d (evA ts x) fun v => K v .same
      | _ => plainE P ts o fun v => K v .same) := by
      simp only [convSlow, hp]
    simp only [opD, convD]
    split
    · rename_i k n hx
      split
      · rename_i v hv
        rw [hx]
        exact (fastConv_eq K ho hx hv).symm
      · exact hs
    · exact hs
  | call c =>
    simp only [opD, builtD, builtinE]
    have h1 : lenD c P (evA ts) g base o K = (match c.args.toList, c.argTypes[0]? with
      | [x], some t => lenE P t (evA ts x) fun v => K v .same
      | _, _ => none) := by
      simp only [lenD]
    have h2 : appDQ c P (evA ts) g base o K = (match c.args.toList, c.argTypes[0]?, c.argTypes[1]? with
      | [s, x], some st, some xt => appendD P g base st xt (evA ts s) (evA ts x) K
      | _, _, _ => none) := by
      simp only [appDQ]
    have h3 : copDQ c P (evA ts) g base o K = (match c.args.toList, c.argTypes[0]? with
      | [d, s], some dt => copyD P g dt (evA ts d) (evA ts s) K
      | _, _ => none) := by
      simp only [copDQ]
    have h4 : plainD P (evA ts) g base o K = plainE P ts o fun v => K v .same := by simp only [plainD, hp]
    cases hc : c.callee with
    | value f => rfl
    | invoke r n => rfl
    | builtin bi => cases bi <;> first | exact h1 | exact h2 | exact h3 | exact h4
  | _ => simp only [opD, movD, allocD, boxD, buildD, buildSD, nilD, fieldAD, indexAD, makeSD, extractD, fieldDQ, makeID, plainD, hp, partsE]
end
end Go.Proofs.YtipigcgegmedeaaGreat.Ev
