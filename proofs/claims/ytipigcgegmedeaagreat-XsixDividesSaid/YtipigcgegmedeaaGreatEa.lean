/- An evaluator of the program's own trees over a small abstract store: what it is. Its names, values and store, and what each operation does. -/
import Derived.Orders
import Derived.LoopN
import Derived.Tactics
namespace Go.Proofs.YtipigcgegmedeaaGreat.Ev
open Go
set_option linter.unusedVariables false
noncomputable section

/-- A block's name: a family and a number in it. -/
structure Nm where
  fam : Nat
  idx : Nat
  deriving DecidableEq
structure Adr where
  nm : Nm
  row : Nat
  col : Nat
inductive AV where
  | undef
  | bool (b : Bool)
  | int (k : IntKind) (n : Int)
  | str (s : List UInt8)
  | ptr (a : Option Adr)
  | slice (a : Adr) (es len : Nat) (cap : Option Nat)   -- the capacity is at least this; none: at least the length
  | nils
  | eslice
  | agg (cs : List AV)
  | tuple (vs : List AV)
  | iface (t : TypeId) (v : AV)
  | nilIface
  | nilFunc
  | func (f : FuncId)
  | cell   -- not known, but it stands in one cell
instance : Inhabited AV := ⟨.undef⟩

/-- A choice that is no branch of the program's. -/
def sel {α : Type} (b : Bool) (x y : α) : α :=
  match b with
  | true => x
  | false => y
theorem sel_eq {α : Type} (b : Bool) (x y : α) : sel b x y = bif b then x else y := by cases b <;> rfl

def allV (f : AV → Option Value) : List AV → Option (List Value)
  | [] => some []
  | a :: t => match f a with
    | some v => match allV f t with
      | some l => some (v :: l)
      | none => none
    | none => none
/-- The value itself, where it holds no address. -/
def toV : Nat → AV → Option Value
  | _, .bool b => some (.bool b)
  | _, .int k n => some (.int k n)
  | _, .str s => some (.string ⟨⟨s⟩⟩)
  | _, .ptr none => some (.pointer none)
  | _, .nils => some (.slice none 0 0)
  | _, .nilIface => some .nilIface
  | _, .nilFunc => some .nilFunc
  | _, .func f => some (.func (.func f) #[] #[])
  | d + 1, .agg cs => match allV (toV d) cs with
    | some l => some (.agg ⟨l⟩)
    | none => none
  | d + 1, .tuple cs => match allV (toV d) cs with
    | some l => some (.tuple ⟨l⟩)
    | none => none
  | d + 1, .iface t v => match toV d v with
    | some x => some (.iface t x)
    | none => none
  | _, _ => none
def ofV : Nat → Value → AV
  | _, .bool b => .bool b
  | _, .int k n => .int k n
  | _, .string s => .str s.data.toList
  | _, .pointer none => .ptr none
  | _, .slice none 0 0 => .nils
  | _, .nilIface => .nilIface
  | _, .nilFunc => .nilFunc
  | d + 1, .agg cs => .agg (cs.toList.map (ofV d))
  | d + 1, .tuple cs => .tuple (cs.toList.map (ofV d))
  | d + 1, .iface t v => .iface t (ofV d v)
  | _, _ => .undef
def AV.cells : AV → List AV
  | .agg cs => cs
  | v => [v]
/-- May stand in one cell. -/
def AV.lone : AV → Bool
  | .undef | .agg _ | .tuple _ => false
  | _ => true

inductive Col where
  | ints (k : IntKind) (f : Nat → Int)
  | bools (f : Nat → Bool)
  | vals (f : Nat → AV)
  | one (v : AV)
def Col.at : Col → Nat → AV
  | .ints k f, i => .int k (f i)
  | .bools f, i => .bool (f i)
  | .vals f, i => f i
  | .one v, _ => v
/-- Has a row for itself each. -/
def Col.many : Col → Bool
  | .one _ => false
  | _ => true
def Col.const : AV → Col
  | .int k n => .ints k fun _ => n
  | .bool b => .bools fun _ => b
  | v => .vals fun _ => v
def Col.put (row : Nat) (v : AV) (c : Col) : Col :=
  match c, v with
  | .one _, v => .one v
  | .ints k f, .int k' n => if k = k' then .ints k fun i => bif Nat.beq i row then n else f i else .vals fun i => bif Nat.beq i row then .int k' n else .int k (f i)
  | .bools f, .bool b => .bools fun i => bif Nat.beq i row then b else f i
  | c, v => .vals fun i => bif Nat.beq i row then v else c.at i
/-- Rows lo .. lo + n are those of d from s on. -/
def Col.lay (lo n s : Nat) (d c : Col) : Col :=
  match c, d with
  | .ints k f, .ints k' g => if k = k' then .ints k fun i => bif Nat.ble lo i && Nat.blt i (lo + n) then g (i - lo + s) else f i else .vals fun i => bif Nat.ble lo i && Nat.blt i (lo + n) then .int k' (g (i - lo + s)) else .int k (f i)
  | .bools f, .bools g => .bools fun i => bif Nat.ble lo i && Nat.blt i (lo + n) then g (i - lo + s) else f i
  | c, d => .vals fun i => bif Nat.ble lo i && Nat.blt i (lo + n) then d.at (i - lo + s) else c.at i
/-- Rows below n are those of c from r on, the others those of d from s on. -/
def Col.join (n r s : Nat) (c d : Col) : Col :=
  match c, d with
  | .ints k f, .ints k' g => if k = k' then .ints k fun i => bif Nat.blt i n then f (i + r) else g (i - n + s) else .vals fun i => bif Nat.blt i n then .int k (f (i + r)) else .int k' (g (i - n + s))
  | .bools f, .bools g => .bools fun i => bif Nat.blt i n then f (i + r) else g (i - n + s)
  | c, d => .vals fun i => bif Nat.blt i n then c.at (i + r) else d.at (i - n + s)

structure Blk where
  rows : Nat
  cols : List Col
  st : Nat   -- how often it was written
/-- A family of names: one block, none any more, or many. -/
inductive Fam where
  | one (B : Blk)
  | gone
  | many (live : Nat → Bool) (blk : Nat → Blk)
abbrev Heap := List (Nat × Fam)
def fam : Heap → Nat → Option Fam
  | [], _ => none
  | (f, F) :: t, n => sel (Nat.beq f n) (some F) (fam t n)
def Fam.get (i : Nat) : Fam → Option Blk
  | .one B => sel (Nat.beq i 0) (some B) none
  | .gone => none
  | .many live blk => sel (live i) (some (blk i)) none
def Fam.set (i : Nat) (B : Blk) : Fam → Fam
  | .one B0 => sel (Nat.beq i 0) (.one B) (.one B0)
  | .gone => .gone
  | .many live blk => .many live fun k => bif Nat.beq k i then B else blk k
def Fam.kill (i : Nat) : Fam → Fam
  | .one B0 => sel (Nat.beq i 0) .gone (.one B0)
  | .gone => .gone
  | .many live blk => .many (fun k => bif Nat.beq k i then false else live k) blk
def get (h : Heap) (n : Nm) : Option Blk :=
  match fam h n.fam with
  | some F => F.get n.idx
  | none => none
def upd (n : Nat) (g : Fam → Fam) : Heap → Heap
  | [] => []
  | (f, F) :: t => sel (Nat.beq f n) ((f, g F) :: t) ((f, F) :: upd n g t)
def set (h : Heap) (n : Nm) (B : Blk) : Heap := upd n.fam (Fam.set n.idx B) h
def kill (h : Heap) (n : Nm) : Heap := upd n.fam (Fam.kill n.idx) h
def add (h : Heap) (base : Nat) (B : Blk) : Heap := (base, .one B) :: h

/-- What an operation does to the store: nothing, a block of its own, a block anew, a block of its own for one that is given up. -/
inductive Dl where
  | same
  | new (B : Blk)
  | put (n : Nm) (B : Blk)
  | grow (n : Nm) (B : Blk)
def Dl.app (h : Heap) (base : Nat) : Dl → Heap
  | .same => h
  | .new B => add h base B
  | .put n B => set h n B
  | .grow n B => add (kill h n) base B
def Dl.nxt (base : Nat) : Dl → Nat
  | .new _ => base + 1
  | .grow _ _ => base + 1
  | _ => base
abbrev Gt := Nm → Option Blk
/-- What an operation writes at a name: none: nothing. -/
def Dl.eff (base : Nat) (d : Dl) (k : Nm) : Option (Option Blk) :=
  match d with
  | .same => none
  | .new B => sel (Nat.beq k.fam base) (some (sel (Nat.beq k.idx 0) (some B) none)) none
  | .put n B => sel (Nat.beq k.fam n.fam && Nat.beq k.idx n.idx) (some (some B)) none
  | .grow n B => sel (Nat.beq k.fam base) (some (sel (Nat.beq k.idx 0) (some B) none)) <|
      sel (Nat.beq k.fam n.fam && Nat.beq k.idx n.idx) (some none) none
def Dl.on (base : Nat) (d : Dl) (g : Gt) : Gt := fun k => (d.eff base k).getD (g k)
def gset (g : Gt) (n : Nm) (B : Blk) : Gt := (Dl.put n B).on 0 g
def gadd (g : Gt) (base : Nat) (B : Blk) : Gt := (Dl.new B).on base g
def gkill (g : Gt) (n : Nm) : Gt := fun k => bif Nat.beq k.fam n.fam && Nat.beq k.idx n.idx then none else g k
/-- The slots, by the recursors themselves (quick to reckon). -/
noncomputable def nth (ts : List AV) (i : Nat) : AV :=
  List.rec (motive := fun _ => Nat → AV) (fun _ => .undef) (fun v _ ih i => Nat.rec (motive := fun _ => AV) v (fun p _ => ih p) i) ts i
theorem nth_nil (i : Nat) : nth [] i = .undef := rfl
theorem nth_zero (v : AV) (t : List AV) : nth (v :: t) 0 = v := rfl
theorem nth_succ (v : AV) (t : List AV) (i : Nat) : nth (v :: t) (i + 1) = nth t i := rfl
noncomputable def putAt (ts : List AV) (i : Nat) (w : AV) : List AV :=
  List.rec (motive := fun _ => Nat → List AV) (fun _ => []) (fun v t ih i => Nat.rec (motive := fun _ => List AV) (w :: t) (fun p _ => v :: ih p) i) ts i
theorem putAt_nil (i : Nat) (w : AV) : putAt [] i w = [] := rfl
theorem putAt_zero (v w : AV) (t : List AV) : putAt (v :: t) 0 w = w :: t := rfl
theorem putAt_succ (v w : AV) (t : List AV) (i : Nat) : putAt (v :: t) (i + 1) w = v :: putAt t i w := rfl
def putD (ts : List AV) (d : Option Tmp) (v : AV) : List AV :=
  match d with
  | some d => putAt ts d v
  | none => ts
def evA (ts : List AV) : Operand → AV
  | .tmp t => nth ts t
  | .const v => ofV 3 v
  | .global _ => .undef
  | .func f => .func f

/-- A piece of the model that asks for nothing but the program. -/
def semE {α : Type} (P : Program) : Sem α → Option α
  | .pure a => some a
  | .program k => semE P (k P)
  | _ => none

section
variable {R : Type}
abbrev Kont (R : Type) := AV → Heap → Nat → Option R
abbrev Spec (R : Type) := Heap → Nat → List AV → Kont R → Option R

def isAgg (P : Program) (t : TypeId) : Option Bool :=
  match P.underlying t with
  | some (.struct _) | some (.array _ _) => some true
  | some _ => some false
  | none => none
/-- The cells from one column on, of a row. -/
def rowCells (cols : List Col) (col n row : Nat) : List AV := ((cols.drop col).take n).map (·.at row)
def putCols (row : Nat) : List Col → Nat → List AV → List Col
  | c :: t, 0, v :: vs => c.put row v :: putCols row t 0 vs
  | c :: t, n + 1, vs => c :: putCols row t n vs
  | cs, _, _ => cs
def loadE (P : Program) (g : Gt) (t : TypeId) (a : Adr) (K : AV → Option R) : Option R :=
  match g a.nm with
  | some B => bif Nat.blt a.row B.rows then
      match isAgg P t, P.info? t with
      | some true, some i => bif Nat.ble (a.col + i.size) B.cols.length then K (.agg (rowCells B.cols a.col i.size a.row)) else none
      | some false, some _ => match B.cols[a.col]? with
        | some c => K (c.at a.row)
        | none => none
      | _, _ => none
    else none
  | none => none
def storeE (P : Program) (g : Gt) (t : TypeId) (a : Adr) (v : AV) (K : Dl → Option R) : Option R :=
  match g a.nm with
  | some B => bif Nat.blt a.row B.rows then
      bif Nat.beq v.cells.length (P.cellsOf t) && Nat.ble (a.col + v.cells.length) B.cols.length && v.cells.all AV.lone && (P.info? t).isSome && (B.cols.all Col.many || Nat.beq B.rows 1) then
        K (.put a.nm { B with cols := putCols a.row B.cols a.col v.cells, st := B.st + 1 })
      else none
    else none
  | none => none
/-- The place of a row's part: where the parts are whole rows, a row farther; else some columns farther. -/
def stepE (g : Gt) (a : Adr) (i e : Nat) (K : Adr → Option R) : Option R :=
  match g a.nm with
  | some B => bif Nat.beq e B.cols.length then (bif Nat.beq a.col 0 then K { a with row := a.row + i } else none) else K { a with col := a.col + i * e }
  | none => none

/-- What an operation gives whose operands hold no address. -/
def plainE (P : Program) (ts : List AV) (o : Oper) (K : AV → Option R) : Option R :=
  match o.op with
  | .select _ _ => none
  | _ =>
    bif o.op.operands.toList.all (fun x => (toV 3 (evA ts x)).isSome) then
      match semE P (execOp (fun x => (toV 3 (evA ts x)).getD undef) o) with
      | some (.value v) => K (ofV 3 v)
      | _ => none
    else none

/-- The parts of a struct or an array, laid over its cells. -/
def layE : List AV → Nat → List AV → List AV
  | _ :: t, 0, v :: vs => v :: layE t 0 vs
  | c :: t, n + 1, vs => c :: layE t n vs
  | cs, _, _ => cs
def fillE (place : Nat → Option (Nat × Nat)) (cells : List AV) : List (Nat × AV) → Option (List AV)
  | [] => some cells
  | (i, v) :: rest =>
    match place i with
    | none => none
    | some (off, size) => bif Nat.beq v.cells.length size && Nat.ble (off + v.cells.length) cells.length then fillE place (layE cells off v.cells) rest else none
def zeroE (P : Program) (t : TypeId) : Option (List AV) :=
  match P.info? t with
  | some i => match i.zero with
    | some v => some ((v.cells).toList.map (ofV 3))
    | none => none
  | none => none
end
end
end Go.Proofs.YtipigcgegmedeaaGreat.Ev
