/- A quick evaluator for closed calls: what an operation is, told once; the frequent ones by short pieces. -/
import Derived.Test.YtipigcgegmedeaaGreatFm
namespace Go.Proofs.YtipigcgegmedeaaGreat.Ev
open Go
set_option linter.unusedVariables false
set_option linter.unusedSimpArgs false
noncomputable section
variable {R : Type} {P : Program}

/-- How a choice of the program's goes on; tl: whether its outcome is put into its slot. -/
structure Md (R : Type) where
  cnd : Bool → Option R → Option R → Option R
  tl : Bool
/-- What a result stands for. -/
structure Dn {Rq : Type} (M : Md Rq) (R : Type) where
  den : Option Rq → Option R
  n0 : den none = none
  cn : ∀ t x y, den (M.cnd t x y) = bif t then den x else den y

/-! ### Heads -/
def asInt (x : AV) (f : IntKind → Int → Option R) : Option R :=
  AV.rec (motive_1 := fun _ => Option R) (motive_2 := fun _ => Unit) none (fun _ => none) f (fun _ => none) (fun _ => none) (fun _ _ _ _ => none) none none (fun _ _ => none) (fun _ _ => none) (fun _ _ _ => none) none none (fun _ => none) none () (fun _ _ _ _ => ()) x
def asBool (x : AV) (f : Bool → Option R) : Option R :=
  AV.rec (motive_1 := fun _ => Option R) (motive_2 := fun _ => Unit) none f (fun _ _ => none) (fun _ => none) (fun _ => none) (fun _ _ _ _ => none) none none (fun _ _ => none) (fun _ _ => none) (fun _ _ _ => none) none none (fun _ => none) none () (fun _ _ _ _ => ()) x
def asAdr (x : Option Adr) (f : Adr → Option R) : Option R := Option.rec (motive := fun _ => Option R) none f x
def asPtr (x : AV) (f : Adr → Option R) : Option R :=
  AV.rec (motive_1 := fun _ => Option R) (motive_2 := fun _ => Unit) none (fun _ => none) (fun _ _ => none) (fun _ => none) (fun a => asAdr a f) (fun _ _ _ _ => none) none none (fun _ _ => none) (fun _ _ => none) (fun _ _ _ => none) none none (fun _ => none) none () (fun _ _ _ _ => ()) x
def asSlice (x : AV) (f : Adr → Nat → Nat → Option Nat → Option R) : Option R :=
  AV.rec (motive_1 := fun _ => Option R) (motive_2 := fun _ => Unit) none (fun _ => none) (fun _ _ => none) (fun _ => none) (fun _ => none) f none none (fun _ _ => none) (fun _ _ => none) (fun _ _ _ => none) none none (fun _ => none) none () (fun _ _ _ _ => ()) x
def asTuple (x : AV) (f : List AV → Option R) : Option R :=
  AV.rec (motive_1 := fun _ => Option R) (motive_2 := fun _ => Unit) none (fun _ => none) (fun _ _ => none) (fun _ => none) (fun _ => none) (fun _ _ _ _ => none) none none (fun _ _ => none) (fun vs _ => f vs) (fun _ _ _ => none) none none (fun _ => none) none () (fun _ _ _ _ => ()) x
def asAgg (x : AV) (f : List AV → Option R) : Option R :=
  AV.rec (motive_1 := fun _ => Option R) (motive_2 := fun _ => Unit) none (fun _ => none) (fun _ _ => none) (fun _ => none) (fun _ => none) (fun _ _ _ _ => none) none none (fun vs _ => f vs) (fun _ _ => none) (fun _ _ _ => none) none none (fun _ => none) none () (fun _ _ _ _ => ()) x
def asSome {α : Type} (x : Option α) (f : α → Option R) : Option R := Option.rec (motive := fun _ => Option R) none f x
section
variable {Rq : Type} {M : Md Rq} {δ : Dn M R} {r : R}
theorem asInt_some {x : AV} {f : IntKind → Int → Option Rq} (h : δ.den (asInt x f) = some r) : ∃ k n, x = .int k n ∧ δ.den (f k n) = some r := by
  cases x <;> first | exact ⟨_, _, rfl, h⟩ | (change δ.den none = some r at h; rw [δ.n0] at h; cases h)
theorem asBool_some {x : AV} {f : Bool → Option Rq} (h : δ.den (asBool x f) = some r) : ∃ b, x = .bool b ∧ δ.den (f b) = some r := by
  cases x <;> first | exact ⟨_, rfl, h⟩ | (change δ.den none = some r at h; rw [δ.n0] at h; cases h)
theorem asSome_some {α : Type} {x : Option α} {f : α → Option Rq} (h : δ.den (asSome x f) = some r) : ∃ a, x = some a ∧ δ.den (f a) = some r := by
  cases x <;> first | exact ⟨_, rfl, h⟩ | (change δ.den none = some r at h; rw [δ.n0] at h; cases h)
theorem asPtr_some {x : AV} {f : Adr → Option Rq} (h : δ.den (asPtr x f) = some r) : ∃ a, x = .ptr (some a) ∧ δ.den (f a) = some r := by
  cases x with
  | ptr a =>
    obtain ⟨a, rfl, h⟩ := asSome_some (x := a) h
    exact ⟨a, rfl, h⟩
  | _ => change δ.den none = some r at h; rw [δ.n0] at h; cases h
theorem asSlice_some {x : AV} {f : Adr → Nat → Nat → Option Nat → Option Rq} (h : δ.den (asSlice x f) = some r) : ∃ a es n c, x = .slice a es n c ∧ δ.den (f a es n c) = some r := by
  cases x <;> first | exact ⟨_, _, _, _, rfl, h⟩ | (change δ.den none = some r at h; rw [δ.n0] at h; cases h)
theorem asTuple_some {x : AV} {f : List AV → Option Rq} (h : δ.den (asTuple x f) = some r) : ∃ a, x = .tuple a ∧ δ.den (f a) = some r := by
  cases x <;> first | exact ⟨_, rfl, h⟩ | (change δ.den none = some r at h; rw [δ.n0] at h; cases h)
theorem asAgg_some {x : AV} {f : List AV → Option Rq} (h : δ.den (asAgg x f) = some r) : ∃ a, x = .agg a ∧ δ.den (f a) = some r := by
  cases x <;> first | exact ⟨_, rfl, h⟩ | (change δ.den none = some r at h; rw [δ.n0] at h; cases h)
theorem cnd_some {t : Bool} {x : Option Rq} (h : δ.den (M.cnd t x none) = some r) : t = true ∧ δ.den x = some r := by
  rw [δ.cn] at h
  cases t with
  | true => exact ⟨rfl, h⟩
  | false => simp only [cond_false, δ.n0] at h; cases h
theorem cnd_none {t : Bool} {x : Option Rq} (h : δ.den (M.cnd t none x) = some r) : t = false ∧ δ.den x = some r := by
  rw [δ.cn] at h
  cases t with
  | false => exact ⟨rfl, h⟩
  | true => simp only [cond_true, δ.n0] at h; cases h
theorem bif_some {t : Bool} {x : Option Rq} (h : δ.den (bif t then x else none) = some r) : t = true ∧ δ.den x = some r := by
  cases t with
  | true => exact ⟨rfl, h⟩
  | false => simp only [cond_false, δ.n0] at h; cases h
end

/-! ### Lists -/
structure BxI (α : Type) where
  f : List α → Option α
def hd0 {α : Type} (l : List α) : Option α := List.rec (motive := fun _ => Option α) none (fun x _ _ => some x) l
def hdn {α : Type} (g : List α → Option α) (l : List α) : Option α := List.rec (motive := fun _ => Option α) none (fun _ t _ => g t) l
/-- The element at a place. -/
def boxI {α : Type} (i : Nat) : BxI α := Nat.rec (motive := fun _ => BxI α) ⟨hd0⟩ (fun _ ih => ⟨hdn ih.f⟩) i
theorem boxI_eq {α : Type} : ∀ (i : Nat) (l : List α), (boxI i).f l = l[i]? := by
  intro i
  induction i with
  | zero => intro l; cases l <;> rfl
  | succ i ih =>
    intro l
    cases l with
    | nil => rfl
    | cons x t => exact (ih t).trans (by simp)
def atL {α : Type} (l : List α) (i : Nat) : Option α := hdS i fun i => (boxI i).f l
theorem atL_eq {α : Type} (l : List α) (i : Nat) : atL l i = l[i]? := by unfold atL; rw [hdS_eq, boxI_eq]
/-- Is it of this length? -/
def lenIs {α : Type} (e : Nat) (l : List α) : Bool :=
  Nat.rec (motive := fun _ => List α → Bool) (fun l => List.rec (motive := fun _ => Bool) true (fun _ _ _ => false) l) (fun _ ih l => List.rec (motive := fun _ => Bool) false (fun _ t _ => ih t) l) e l
theorem lenIs_eq {α : Type} : ∀ (e : Nat) (l : List α), lenIs e l = Nat.beq e l.length := by
  intro e
  induction e with
  | zero => intro l; cases l <;> rfl
  | succ e ih =>
    intro l
    cases l with
    | nil => rfl
    | cons x t => exact ih t

/-! ### The frequent operations -/
abbrev ArmF (R : Type) := Md R → Program → Nat → Tri AV → Gt → Nat → (AV → Option R) → KD R → Option R
/-- What an operation by short pieces comes to. -/
def Arm (P : Program) (o : Oper) (f : {Rq : Type} → ArmF Rq) : Prop :=
  ∀ {R Rq : Type} {M : Md Rq} (δ : Dn M R) (r : R) (V : Nat) (F : Tri AV) (ts : List AV) (g : Gt) (b : Nat) (Ks : AV → Option Rq) (Kd : KD Rq), FR V F ts → (∀ v, Ks v = Kd v .same) → δ.den (f M P V F g b Ks Kd) = some r → ∃ v d, evV P g b ts o = some (v, d) ∧ δ.den (Kd v d) = some r
theorem gives {g : Gt} {b : Nat} {ts : List AV} {o : Oper} {v : AV} {d : Dl} (h : ∀ K : KD (AV × Dl), evD P g b ts o K = K v d) : evV P g b ts o = some (v, d) := by
  have := h fun v d => some (v, d)
  rw [evD_nat] at this
  cases e : evV P g b ts o with
  | none => rw [e] at this; cases this
  | some p => rw [e] at this; exact this
/-- The other operations, by the piece that does them. -/
def genF {R : Type} (d : ArmD R) (o : Oper) (M : Md R) (P : Program) (V : Nat) (F : Tri AV) (g : Gt) (b : Nat) (Ks : AV → Option R) (Kd : KD R) : Option R := d P (evF V F) g b o Kd
theorem gen_arm {d : (R : Type) → ArmD R} {o : Oper} (h : ∀ R : Type, (opD o.op : ArmD R) = d R) : Arm P o (fun {Rq} => genF (d Rq) o) := by
  intro R Rq M δ r V F ts g b Ks Kd T hs hk
  dsimp only [genF] at hk
  rw [T.ev, ← h Rq, opD_eq, evD_nat] at hk
  cases e : evV P g b ts o with
  | none => rw [e, Option.bind_none, δ.n0] at hk; cases hk
  | some p => rw [e, Option.bind_some] at hk; exact ⟨p.1, p.2, rfl, hk⟩
/-- The same, with every choice told. -/
def genC {R : Type} (d : ArmC R) (o : Oper) (M : Md R) (P : Program) (V : Nat) (F : Tri AV) (g : Gt) (b : Nat) (Ks : AV → Option R) (Kd : KD R) : Option R := d M.cnd P (evF V F) g b o Kd
def movF (x : Operand) {R : Type} (M : Md R) (P : Program) (V : Nat) (F : Tri AV) (g : Gt) (b : Nat) (Ks : AV → Option R) (Kd : KD R) : Option R := Ks ((boxA V x).f F)
theorem ev_def (V : Nat) (F : Tri AV) (x : Operand) : (boxA V x).f F = evF V F x := rfl
theorem mov_arm {o : Oper} {x : Operand} (ho : o.op = .move x ∨ o.op = .assign x) : Arm P o (movF x) := by
  intro R Rq M δ r V F ts g b Ks Kd T hs hk
  dsimp only [movF] at hk
  rw [ev_def, T.ev, hs] at hk
  refine ⟨_, _, gives fun K => ?_, hk⟩
  rcases ho with ho | ho <;> (unfold evD; rw [ho])

/-- Numbers. -/
structure BxW where
  f : Int → Int
def boxW (k : IntKind) : BxW := match k with
  | .i8 => ⟨wS 128 .i8⟩
  | .i16 => ⟨wS 32768 .i16⟩
  | .i32 => ⟨wS 2147483648 .i32⟩
  | .i64 => ⟨wS 9223372036854775808 .i64⟩
  | .u8 => ⟨wU 256 .u8⟩
  | .u16 => ⟨wU 65536 .u16⟩
  | .u32 => ⟨wU 4294967296 .u32⟩
  | .u64 => ⟨wU 18446744073709551616 .u64⟩
theorem boxW_eq (k : IntKind) (n : Int) : wrapQ k n = (boxW k).f n := by cases k <;> rfl
abbrev Alu := IntKind → Int → Int → AV
def aluOf : BinOp → Option Alu
  | .add => some fun k a b => .int k (wrapQ k (addQ a b))
  | .sub => some fun k a b => .int k (wrapQ k (subQ a b))
  | .mul => some fun k a b => .int k (wrapQ k (mulQ a b))
  | .and => some fun k a b => .int k (andQ k a b)
  | .or => some fun k a b => .int k (orQ k a b)
  | .xor => some fun k a b => .int k (xorQ k a b)
  | .andNot => some fun k a b => .int k (nandQ k a b)
  | .eql => some fun _ a b => .bool (eqQ a b)
  | .neq => some fun _ a b => .bool (bif eqQ a b then false else true)
  | .lss => some fun _ a b => .bool (ltQ a b)
  | .leq => some fun _ a b => .bool (bif ltQ b a then false else true)
  | .gtr => some fun _ a b => .bool (ltQ b a)
  | .geq => some fun _ a b => .bool (bif ltQ a b then false else true)
  | _ => none
theorem aluOf_eq {op : BinOp} {h : Alu} (e : aluOf op = some h) (k : IntKind) (a b : Int) : armBin op k a b = some (h k a b) := by
  cases op <;> simp only [aluOf] at e <;> cases e <;> rfl
def aluF (h : Alu) (x y : Operand) {R : Type} (M : Md R) (P : Program) (V : Nat) (F : Tri AV) (g : Gt) (b : Nat) (Ks : AV → Option R) (Kd : KD R) : Option R :=
  asInt ((boxA V x).f F) fun k a => asInt ((boxA V y).f F) fun k' c => bif eqK k k' then Ks (h k a c) else none
theorem alu_arm {o : Oper} {op : BinOp} {t yt : TypeId} {x y : Operand} {h : Alu} (ho : o.op = .binOp op t x y yt) (e : aluOf op = some h) : Arm P o (aluF h x y) := by
  intro R Rq M δ r V F ts g b Ks Kd T hs hk
  dsimp only [aluF] at hk
  rw [ev_def, ev_def, T.ev] at hk
  obtain ⟨k, a, hx, hk⟩ := asInt_some hk
  obtain ⟨k', c, hy, hk⟩ := asInt_some hk
  obtain ⟨h1, hk⟩ := bif_some hk
  rw [hs] at hk
  refine ⟨_, _, gives fun K => fastBin_eq K ho ?_, hk⟩
  simp only [fastBin, hx, hy, h1, cond_true, aluOf_eq e]
/-- Quotients and shifts. -/
abbrev Gte := Int → Bool
def guardAlu : BinOp → Option (Gte × Alu)
  | .quo => some (fun b => eqQ b 0, fun k a b => .int k (quoQ k a b))
  | .rem => some (fun b => eqQ b 0, fun k a b => .int k (remQ a b))
  | _ => none
def shiftAlu : BinOp → Option Alu
  | .shl => some fun k a b => .int k (shlQ k a b)
  | .shr => some fun k a b => .int k (shrQ k a b)
  | _ => none
def divF (t : Gte) (h : Alu) (x y : Operand) {R : Type} (M : Md R) (P : Program) (V : Nat) (F : Tri AV) (g : Gt) (b : Nat) (Ks : AV → Option R) (Kd : KD R) : Option R :=
  asInt ((boxA V x).f F) fun k a => asInt ((boxA V y).f F) fun k' c => bif eqK k k' then M.cnd (t c) none (Ks (h k a c)) else none
theorem div_arm {o : Oper} {op : BinOp} {ty yt : TypeId} {x y : Operand} {t : Gte} {h : Alu} (ho : o.op = .binOp op ty x y yt) (e : guardAlu op = some (t, h)) : Arm P o (divF t h x y) := by
  intro R Rq M δ r V F ts g b Ks Kd T hs hk
  dsimp only [divF] at hk
  rw [ev_def, ev_def, T.ev] at hk
  obtain ⟨k, a, hx, hk⟩ := asInt_some hk
  obtain ⟨k', c, hy, hk⟩ := asInt_some hk
  obtain ⟨h1, hk⟩ := bif_some hk
  obtain ⟨h2, hk⟩ := cnd_none hk
  rw [hs] at hk
  refine ⟨_, _, gives fun K => guard_eq K ?_, hk⟩
  rw [ho]
  simp only [guardOf, hx, hy]
  cases op <;> simp only [guardAlu] at e <;> cases e <;> simp only [gbin, h1, cond_true] <;> exact congrArg (fun z => some (z, _)) h2
def shF (h : Alu) (x y : Operand) {R : Type} (M : Md R) (P : Program) (V : Nat) (F : Tri AV) (g : Gt) (b : Nat) (Ks : AV → Option R) (Kd : KD R) : Option R :=
  asInt ((boxA V x).f F) fun k a => asInt ((boxA V y).f F) fun k' c => M.cnd (ltQ c 0) none (Ks (h k a c))
theorem sh_arm {o : Oper} {op : BinOp} {ty yt : TypeId} {x y : Operand} {h : Alu} (ho : o.op = .binOp op ty x y yt) (e : shiftAlu op = some h) : Arm P o (shF h x y) := by
  intro R Rq M δ r V F ts g b Ks Kd T hs hk
  dsimp only [shF] at hk
  rw [ev_def, ev_def, T.ev] at hk
  obtain ⟨k, a, hx, hk⟩ := asInt_some hk
  obtain ⟨k', c, hy, hk⟩ := asInt_some hk
  obtain ⟨h2, hk⟩ := cnd_none hk
  rw [hs] at hk
  refine ⟨_, _, gives fun K => guard_eq K ?_, hk⟩
  rw [ho]
  simp only [guardOf, hx, hy]
  cases op <;> simp only [shiftAlu] at e <;> cases e <;> simp only [gbin] <;> exact congrArg (fun z => some (z, _)) h2
/-- From numbers to numbers. -/
def cvF (k : IntKind) (x : Operand) {R : Type} (M : Md R) (P : Program) (V : Nat) (F : Tri AV) (g : Gt) (b : Nat) (Ks : AV → Option R) (Kd : KD R) : Option R := asInt ((boxA V x).f F) fun _ n => Ks (.int k (wrapQ k n))
theorem cv_arm {o : Oper} {s d : TypeId} {x : Operand} {us : TypeDesc} {k : IntKind} (ho : o.op = .convert s d x) (h1 : P.underlying s = some us) (h2 : P.underlying d = some (.int k)) : Arm P o (cvF k x) := by
  intro R Rq M δ r V F ts g b Ks Kd T hs hk
  dsimp only [cvF] at hk
  rw [ev_def, T.ev] at hk
  obtain ⟨k', n, hx, hk⟩ := asInt_some hk
  rw [hs] at hk
  refine ⟨_, _, gives fun K => ?_, hk⟩
  have hf : fastConv P s d n = some (.int k (wrapQ k n)) := by simp only [fastConv, h1, h2, intOf]
  unfold evD
  rw [ho]
  simp only [hx]
  exact fastConv_eq K ho hx hf

/-- Loads. -/
def ldF (x : Operand) {R : Type} (M : Md R) (P : Program) (V : Nat) (F : Tri AV) (g : Gt) (b : Nat) (Ks : AV → Option R) (Kd : KD R) : Option R :=
  asPtr ((boxA V x).f F) fun p => asSome (g p.nm) fun B => M.cnd (Nat.ble (Nat.succ p.row) B.rows) (asSome (atL B.cols p.col) fun c => Ks (c.at p.row)) none
theorem ld_arm {o : Oper} {t : TypeId} {x : Operand} {i : TypeInfo} (ho : o.op = .load t x) (h1 : isAgg P t = some false) (h2 : P.info? t = some i) : Arm P o (ldF x) := by
  intro R Rq M δ r V F ts g b Ks Kd T hs hk
  dsimp only [ldF] at hk
  rw [ev_def, T.ev] at hk
  obtain ⟨p, hx, hk⟩ := asPtr_some hk
  obtain ⟨B, hB, hk⟩ := asSome_some hk
  obtain ⟨h3, hk⟩ := cnd_some hk
  obtain ⟨c, hc, hk⟩ := asSome_some hk
  rw [hs] at hk
  rw [atL_eq] at hc
  refine ⟨_, _, gives fun K => ?_, hk⟩
  have h3' : Nat.blt p.row B.rows = true := h3
  unfold evD
  rw [ho]
  simp only [hx, loadE, hB, h3', cond_true, h1, h2, hc]
def ldG (n : Nat) (x : Operand) {R : Type} (M : Md R) (P : Program) (V : Nat) (F : Tri AV) (g : Gt) (b : Nat) (Ks : AV → Option R) (Kd : KD R) : Option R :=
  asPtr ((boxA V x).f F) fun p => asSome (g p.nm) fun B => M.cnd (Nat.ble (Nat.succ p.row) B.rows) (bif Nat.ble (p.col + n) B.cols.length then Ks (.agg (rowCells B.cols p.col n p.row)) else none) none
theorem ldG_arm {o : Oper} {t : TypeId} {x : Operand} {i : TypeInfo} (ho : o.op = .load t x) (h1 : isAgg P t = some true) (h2 : P.info? t = some i) : Arm P o (ldG i.size x) := by
  intro R Rq M δ r V F ts g b Ks Kd T hs hk
  dsimp only [ldG] at hk
  rw [ev_def, T.ev] at hk
  obtain ⟨p, hx, hk⟩ := asPtr_some hk
  obtain ⟨B, hB, hk⟩ := asSome_some hk
  obtain ⟨h3, hk⟩ := cnd_some hk
  obtain ⟨h4, hk⟩ := bif_some hk
  rw [hs] at hk
  refine ⟨_, _, gives fun K => ?_, hk⟩
  have h3' : Nat.blt p.row B.rows = true := h3
  unfold evD
  rw [ho]
  simp only [hx, loadE, hB, h3', cond_true, h1, h2, h4]
/-- Stores. -/
def one1 (v : AV) : Bool :=
  AV.rec (motive_1 := fun _ => Bool) (motive_2 := fun _ => Unit) false (fun _ => true) (fun _ _ => true) (fun _ => true) (fun _ => true) (fun _ _ _ _ => true) true true (fun _ _ => false) (fun _ _ => false) (fun _ _ _ => true) true true (fun _ => true) true () (fun _ _ _ _ => ()) v
theorem one1_eq {v : AV} (h : one1 v = true) : v.cells = [v] ∧ v.lone = true := by cases v <;> first | exact ⟨rfl, rfl⟩ | cases h
structure BxC where
  f : AV → List Col → List Col
def pc0 (row : Nat) (v : AV) (l : List Col) : List Col := List.rec (motive := fun _ => List Col) [] (fun c t _ => c.put row v :: t) l
/-- One column written. -/
def putC (row : Nat) (v : AV) (i : Nat) (l : List Col) : List Col :=
  Nat.rec (motive := fun _ => List Col → List Col) (fun l => List.rec (motive := fun _ => List Col) [] (fun c t _ => c.put row v :: t) l) (fun _ ih l => List.rec (motive := fun _ => List Col) [] (fun c t _ => c :: ih t) l) i l
theorem putC_eq (row : Nat) (v : AV) : ∀ (i : Nat) (l : List Col), putC row v i l = putCols row l i [v] := by
  intro i
  induction i with
  | zero =>
    intro l
    cases l with
    | nil => rfl
    | cons c t => cases t <;> rfl
  | succ i ih =>
    intro l
    cases l with
    | nil => rfl
    | cons c t => simp only [putCols]; rw [← ih t]; rfl
def stF (x y : Operand) {R : Type} (M : Md R) (P : Program) (V : Nat) (F : Tri AV) (g : Gt) (b : Nat) (Ks : AV → Option R) (Kd : KD R) : Option R :=
  asPtr ((boxA V x).f F) fun p => asSome (g p.nm) fun B => M.cnd (Nat.ble (Nat.succ p.row) B.rows)
    (bif one1 ((boxA V y).f F) then (bif Nat.ble (p.col + 1) B.cols.length then
      (bif B.cols.all Col.many then Kd (.tuple []) (.put p.nm ⟨B.rows, putC p.row ((boxA V y).f F) p.col B.cols, B.st + 1⟩)
        else M.cnd (Nat.beq B.rows 1) (Kd (.tuple []) (.put p.nm ⟨B.rows, putC p.row ((boxA V y).f F) p.col B.cols, B.st + 1⟩)) none) else none) else none) none
theorem st_arm {o : Oper} {t : TypeId} {x y : Operand} {i : TypeInfo} (ho : o.op = .store t x y) (h1 : P.cellsOf t = 1) (h2 : P.info? t = some i) : Arm P o (stF x y) := by
  intro R Rq M δ r V F ts g b Ks Kd T hs hk
  dsimp only [stF] at hk
  simp only [ev_def, T.ev] at hk
  obtain ⟨p, hx, hk⟩ := asPtr_some hk
  obtain ⟨B, hB, hk⟩ := asSome_some hk
  obtain ⟨h3, hk⟩ := cnd_some hk
  obtain ⟨h4, hk⟩ := bif_some hk
  obtain ⟨h5, hk⟩ := bif_some hk
  obtain ⟨c1, c2⟩ := one1_eq h4
  simp only [putC_eq] at hk
  have h6 : (Nat.beq B.rows 1 || B.cols.all Col.many) = true ∧ δ.den (Kd (.tuple []) (.put p.nm ⟨B.rows, putCols p.row B.cols p.col [evA ts y], B.st + 1⟩)) = some r := by
    cases hm : B.cols.all Col.many with
    | true => rw [hm, cond_true] at hk; exact ⟨by simp, hk⟩
    | false =>
      rw [hm, cond_false] at hk
      obtain ⟨h7, hk⟩ := cnd_some hk
      exact ⟨by rw [h7]; rfl, hk⟩
  obtain ⟨h6, hk⟩ := h6
  refine ⟨_, _, gives fun K => ?_, hk⟩
  have h3' : Nat.blt p.row B.rows = true := h3
  rw [Bool.or_comm] at h6
  unfold evD
  rw [ho]
  simp only [hx, storeE, hB, h3', cond_true, c1, List.all_cons, c2, List.all_nil, List.length_cons, List.length_nil, h1, h2, Option.isSome_some, h6, Nat.zero_add, h5, Bool.and_true, Bool.true_and]
  rfl
/-- Places. -/
def faF (off : Nat) (x : Operand) {R : Type} (M : Md R) (P : Program) (V : Nat) (F : Tri AV) (g : Gt) (b : Nat) (Ks : AV → Option R) (Kd : KD R) : Option R :=
  asPtr ((boxA V x).f F) fun p => Ks (.ptr (some ⟨p.nm, p.row, p.col + off⟩))
theorem fa_arm {o : Oper} {s : TypeId} {f : Nat} {x : Operand} {fs : Array Field} {fd : Field} {i : TypeInfo} (ho : o.op = .fieldAddr s x f) (h1 : P.underlying s = some (.struct fs)) (h2 : fs[f]? = some fd) (h3 : P.info? fd.type = some i) (h4 : Nat.beq i.size 0 = false) : Arm P o (faF fd.offset x) := by
  intro R Rq M δ r V F ts g b Ks Kd T hs hk
  dsimp only [faF] at hk
  rw [ev_def, T.ev] at hk
  obtain ⟨p, hx, hk⟩ := asPtr_some hk
  rw [hs] at hk
  refine ⟨_, _, gives fun K => ?_, hk⟩
  unfold evD
  rw [ho]
  simp only [hx, fieldAddrE, h1, h2, h3, h4, cond_false]
/-- Is it a place of so many? -/
def inR (i : Int) (n : Nat) : Bool := match i with
  | .ofNat x => Nat.ble (Nat.succ x) n
  | .negSucc _ => false
def natQ (i : Int) : Nat := match i with
  | .ofNat x => x
  | .negSucc _ => 0
theorem natQ_eq (i : Int) : natQ i = i.toNat := by cases i <;> rfl
theorem inR_eq (i : Int) (n : Nat) : inR i n = (decide (0 ≤ i) && decide (i < (n : Int))) := by
  rw [Bool.eq_iff_iff, Bool.and_eq_true, decide_eq_true_iff, decide_eq_true_iff]
  cases i with
  | ofNat x => simp only [inR, Nat.ble_eq, Int.ofNat_eq_natCast]; omega
  | negSucc x => simp only [inR]; constructor <;> intro h <;> first | (exfalso; have := Int.negSucc_lt_zero x; omega) | cases h
def stepF (g : Gt) (a : Adr) (i e : Nat) (K : AV → Option R) : Option R :=
  asSome (g a.nm) fun B => bif lenIs e B.cols then (bif Nat.beq a.col 0 then K (.ptr (some ⟨a.nm, a.row + i, a.col⟩)) else none) else K (.ptr (some ⟨a.nm, a.row, a.col + i * e⟩))
theorem stepF_some {Rq : Type} {M : Md Rq} {δ : Dn M R} {r : R} {g : Gt} {a : Adr} {i e : Nat} {K : AV → Option Rq} (h : δ.den (stepF g a i e K) = some r) : ∃ q : Adr, (∀ {R : Type} (K : Adr → Option R), stepE g a i e K = K q) ∧ δ.den (K (.ptr (some q))) = some r := by
  unfold stepF at h
  obtain ⟨B, hB, h⟩ := asSome_some h
  rw [lenIs_eq] at h
  cases hl : Nat.beq e B.cols.length with
  | true =>
    rw [hl, cond_true] at h
    obtain ⟨h2, h⟩ := bif_some h
    exact ⟨_, fun K => by simp only [stepE, hB, hl, cond_true, h2], h⟩
  | false =>
    rw [hl, cond_false] at h
    exact ⟨_, fun K => by simp only [stepE, hB, hl, cond_false], h⟩
def iaF (e : Nat) (x ix : Operand) {R : Type} (M : Md R) (P : Program) (V : Nat) (F : Tri AV) (g : Gt) (b : Nat) (Ks : AV → Option R) (Kd : KD R) : Option R :=
  asSlice ((boxA V x).f F) fun p _ n _ => asInt ((boxA V ix).f F) fun _ i => M.cnd (inR i n) (stepF g p (natQ i) e Ks) none
theorem ia_arm {o : Oper} {t e : TypeId} {x ix : Operand} {i : TypeInfo} (ho : o.op = .indexAddr t x ix) (h1 : P.underlying t = some (.slice e)) (h2 : P.info? e = some i) : Arm P o (iaF i.size x ix) := by
  intro R Rq M δ r V F ts g b Ks Kd T hs hk
  dsimp only [iaF] at hk
  simp only [ev_def, T.ev] at hk
  obtain ⟨p, es, n, c, hx, hk⟩ := asSlice_some hk
  obtain ⟨k, j, hj, hk⟩ := asInt_some hk
  obtain ⟨h3, hk⟩ := cnd_some hk
  obtain ⟨q, h4, hk⟩ := stepF_some hk
  rw [hs] at hk
  refine ⟨_, _, gives fun K => ?_, hk⟩
  rw [inR_eq] at h3
  unfold evD
  rw [ho]
  simp only [hx, hj, indexAddrE, h1, h2, h3, cond_true, ← natQ_eq, h4]
def iaG (n e : Nat) (x ix : Operand) {R : Type} (M : Md R) (P : Program) (V : Nat) (F : Tri AV) (g : Gt) (b : Nat) (Ks : AV → Option R) (Kd : KD R) : Option R :=
  asPtr ((boxA V x).f F) fun p => asInt ((boxA V ix).f F) fun _ i => M.cnd (inR i n) (stepF g p (natQ i) e Ks) none
theorem iaG_arm {o : Oper} {t e : TypeId} {n : Nat} {x ix : Operand} {i : TypeInfo} (ho : o.op = .indexAddr t x ix) (h1 : P.underlying t = some (.array n e)) (h2 : P.info? e = some i) : Arm P o (iaG n i.size x ix) := by
  intro R Rq M δ r V F ts g b Ks Kd T hs hk
  dsimp only [iaG] at hk
  simp only [ev_def, T.ev] at hk
  obtain ⟨p, hx, hk⟩ := asPtr_some hk
  obtain ⟨k, j, hj, hk⟩ := asInt_some hk
  obtain ⟨h3, hk⟩ := cnd_some hk
  obtain ⟨q, h4, hk⟩ := stepF_some hk
  rw [hs] at hk
  refine ⟨_, _, gives fun K => ?_, hk⟩
  rw [inR_eq] at h3
  unfold evD
  rw [ho]
  simp only [hx, hj, indexAddrE, h1, h2, h3, cond_true, ← natQ_eq, h4]
def exF (i : Nat) (x : Operand) {R : Type} (M : Md R) (P : Program) (V : Nat) (F : Tri AV) (g : Gt) (b : Nat) (Ks : AV → Option R) (Kd : KD R) : Option R := asTuple ((boxA V x).f F) fun vs => asSome ((boxI i).f vs) Ks
theorem ex_arm {o : Oper} {i : Nat} {x : Operand} (ho : o.op = .extract x i) : Arm P o (exF i x) := by
  intro R Rq M δ r V F ts g b Ks Kd T hs hk
  dsimp only [exF] at hk
  rw [ev_def, T.ev] at hk
  obtain ⟨vs, hx, hk⟩ := asTuple_some hk
  obtain ⟨v, hv, hk⟩ := asSome_some hk
  rw [hs] at hk
  rw [boxI_eq] at hv
  refine ⟨_, _, gives fun K => ?_, hk⟩
  unfold evD
  rw [ho]
  simp only [hx, extractE, hv]
def flF (i : Nat) (x : Operand) {R : Type} (M : Md R) (P : Program) (V : Nat) (F : Tri AV) (g : Gt) (b : Nat) (Ks : AV → Option R) (Kd : KD R) : Option R := asAgg ((boxA V x).f F) fun vs => asSome ((boxI i).f vs) Ks
theorem fl_arm {o : Oper} {t : TypeId} {f : Nat} {x : Operand} {fs : Array Field} {fd : Field} {i : TypeInfo} (ho : o.op = .field t x f) (h1 : P.underlying t = some (.struct fs)) (h2 : fs[f]? = some fd) (h3 : isAgg P fd.type = some false) (h4 : P.info? fd.type = some i) : Arm P o (flF fd.offset x) := by
  intro R Rq M δ r V F ts g b Ks Kd T hs hk
  dsimp only [flF] at hk
  rw [ev_def, T.ev] at hk
  obtain ⟨vs, hx, hk⟩ := asAgg_some hk
  obtain ⟨v, hv, hk⟩ := asSome_some hk
  rw [hs] at hk
  rw [boxI_eq] at hv
  refine ⟨_, _, gives fun K => ?_, hk⟩
  unfold evD
  rw [ho]
  simp only [hx, fieldE, h1, h2, partE, h3, h4, hv]

/-- A string's byte. -/
def asStr (x : AV) (f : List UInt8 → Option R) : Option R :=
  AV.rec (motive_1 := fun _ => Option R) (motive_2 := fun _ => Unit) none (fun _ => none) (fun _ _ => none) f (fun _ => none) (fun _ _ _ _ => none) none none (fun _ _ => none) (fun _ _ => none) (fun _ _ _ => none) none none (fun _ => none) none () (fun _ _ _ _ => ()) x
theorem asStr_some {Rq : Type} {M : Md Rq} {δ : Dn M R} {r : R} {x : AV} {f : List UInt8 → Option Rq} (h : δ.den (asStr x f) = some r) : ∃ s, x = .str s ∧ δ.den (f s) = some r := by
  cases x <;> first | exact ⟨_, rfl, h⟩ | (change δ.den none = some r at h; rw [δ.n0] at h; cases h)
def ixF (x ix : Operand) {R : Type} (M : Md R) (P : Program) (V : Nat) (F : Tri AV) (g : Gt) (b : Nat) (Ks : AV → Option R) (Kd : KD R) : Option R :=
  asStr ((boxA V x).f F) fun s => asInt ((boxA V ix).f F) fun _ i => M.cnd (inR i s.length) (Ks (.int .u8 (.ofNat (s.getD (natQ i) 0).toNat))) none
theorem ix_arm {o : Oper} {t : TypeId} {x ix : Operand} (ho : o.op = .index t x ix) (h1 : P.underlying t = some .string) : Arm P o (ixF x ix) := by
  intro R Rq M δ r V F ts g b Ks Kd T hs hk
  dsimp only [ixF] at hk
  simp only [ev_def, T.ev] at hk
  obtain ⟨s, hx, hk⟩ := asStr_some hk
  obtain ⟨k, i, hi, hk⟩ := asInt_some hk
  obtain ⟨h3, hk⟩ := cnd_some hk
  rw [hs] at hk
  refine ⟨_, _, gives fun K => ?_, hk⟩
  rw [inR_eq, Bool.and_eq_true, decide_eq_true_iff, decide_eq_true_iff] at h3
  obtain ⟨h4, h5⟩ := h3
  have hlt : i.toNat < s.length := by omega
  have hget : (⟨⟨s⟩⟩ : ByteArray)[i.toNat]? = some s[i.toNat] := by
    have : i.toNat < (⟨⟨s⟩⟩ : ByteArray).size := hlt
    rw [getElem?_pos (ByteArray.mk (Array.mk s)) i.toNat this]
    rfl
  unfold evD
  rw [ho]
  simp only [hx]
  unfold plainE
  rw [ho]
  have hall : (Op.index t x ix).operands.toList.all (fun x => (toV 3 (evA ts x)).isSome) = true := by
    simp only [Op.operands]
    simp [hx, hi, toV]
  simp only [hall, cond_true, execOp, ho, hx, hi, toV, Option.getD_some]
  have hnat : natQ i = i.toNat := natQ_eq i
  have hgd : s.getD i.toNat 0 = s[i.toNat] := by rw [List.getD_eq_getElem?_getD, List.getElem?_eq_getElem hlt]; rfl
  simp [Instr.index, asIntOf, underlying, program, semE, bind, Sem.bind, pure, h1, h4, hget, ofV, hnat, List.getElem?_eq_getElem hlt]

/-! ### What an operation is -/
inductive Kind (R : Type) where
  | call (c : Go.Call) (f : Operand)
  | op (f : ArmF R)
def kLoad (P : Program) (o : Oper) (t : TypeId) (x : Operand) : Kind R :=
  match isAgg P t, P.info? t with
  | some false, some _ => .op (ldF x)
  | some true, some i => .op (ldG i.size x)
  | _, _ => .op (genF (loadD t x) o)
def kStore (P : Program) (o : Oper) (t : TypeId) (x y : Operand) : Kind R :=
  match isAgg P t, Nat.beq (P.cellsOf t) 1, P.info? t with
  | some false, true, some _ => .op (stF x y)
  | _, _, _ => .op (genF (storeD t x y) o)
def kField (P : Program) (o : Oper) (s : TypeId) (x : Operand) (f : Nat) : Kind R :=
  match P.underlying s with
  | some (.struct fs) => (match fs[f]? with
    | some fd => (match P.info? fd.type with
      | some i => (match Nat.beq i.size 0 with
        | false => hdS fd.offset fun off => .op (faF off x)
        | true => .op (genF (fieldAD s x f) o))
      | none => .op (genF (fieldAD s x f) o))
    | none => .op (genF (fieldAD s x f) o))
  | _ => .op (genF (fieldAD s x f) o)
def kIndex (P : Program) (o : Oper) (t : TypeId) (x ix : Operand) : Kind R :=
  match P.underlying t with
  | some (.slice e) => (match P.info? e with
    | some i => hdS i.size fun n => .op (iaF n x ix)
    | none => .op (genF (indexAD t x ix) o))
  | some (.array n e) => (match P.info? e with
    | some i => hdS i.size fun m => .op (iaG n m x ix)
    | none => .op (genF (indexAD t x ix) o))
  | _ => .op (genF (indexAD t x ix) o)
def kPart (P : Program) (o : Oper) (t : TypeId) (x : Operand) (f : Nat) : Kind R :=
  match P.underlying t with
  | some (.struct fs) => (match fs[f]? with
    | some fd => (match isAgg P fd.type, P.info? fd.type with
      | some false, some _ => hdS fd.offset fun off => .op (flF off x)
      | _, _ => .op (genF (fieldDQ t x f) o))
    | none => .op (genF (fieldDQ t x f) o))
  | _ => .op (genF (fieldDQ t x f) o)
def kString (P : Program) (o : Oper) (t : TypeId) (x ix : Operand) : Kind R :=
  match P.underlying t with
  | some .string => .op (ixF x ix)
  | _ => .op (genF (indexDQ t x ix) o)
def kBin (P : Program) (o : Oper) (op : BinOp) (t : TypeId) (x y : Operand) : Kind R :=
  match P.underlying t with
  | some (.int _) => (match aluOf op with
    | some h => .op (aluF h x y)
    | none => (match guardAlu op with
      | some (g, h) => .op (divF g h x y)
      | none => (match shiftAlu op with
        | some h => .op (shF h x y)
        | none => .op (genF (binD op t x y) o))))
  | _ => .op (genF (binD op t x y) o)
def kConv (P : Program) (o : Oper) (s d : TypeId) (x : Operand) : Kind R :=
  match P.underlying s with
  | some (.int _) => (match P.underlying d with
    | some (.int k) => .op (cvF k x)
    | _ => .op (genC (convC s d x) o))
  | _ => .op (genC (convC s d x) o)
def kCall (o : Oper) (c : Go.Call) : Kind R :=
  match c.callee with
  | .value f => .call c f
  | .builtin .len => .op (genF (lenD c) o)
  | .builtin .append => .op (genC (appC c) o)
  | .builtin .copy => .op (genC (copC c) o)
  | .builtin _ => .op (genF plainD o)
  | _ => .op (genF noneD o)
def kindOf (P : Program) (o : Oper) : Kind R :=
  match o.op with
  | .move x => .op (movF x)
  | .assign x => .op (movF x)
  | .pick c x y => .op (genF (pickD c x y) o)
  | .load t x => kLoad P o t x
  | .store t x y => kStore P o t x y
  | .alloc t => .op (genF (allocD t) o)
  | .box t x => .op (genF (boxD x) o)
  | .build t ps => .op (genF (buildD t ps) o)
  | .buildSlice t n ps => .op (genF (buildSD t n ps) o)
  | .nilCheck x => .op (genF (nilD x) o)
  | .fieldAddr s x f => kField P o s x f
  | .indexAddr t x ix => kIndex P o t x ix
  | .slice t x lo hi mx => .op (genC (sliceCC t x lo hi mx) o)
  | .makeSlice t l c => .op (genC (makeSC t l c) o)
  | .extract x i => .op (exF i x)
  | .field t x f => kPart P o t x f
  | .index t x ix => kString P o t x ix
  | .makeInterface t x => .op (genF (makeID t x) o)
  | .binOp op t x y _ => kBin P o op t x y
  | .convert s d x => kConv P o s d x
  | .call c => kCall o c
  | _ => .op (genF plainD o)
/-- What a kind must be. -/
def KindOk (P : Program) (o : Oper) {Rq : Type} (k : Kind Rq) : Prop :=
  match k with
  | .call c f => callee o = some (c, f)
  | .op f => callee o = none ∧ ∀ {R : Type} {M : Md Rq} (δ : Dn M R) (r : R) (V : Nat) (F : Tri AV) (ts : List AV) (g : Gt) (b : Nat) (Ks : AV → Option Rq) (Kd : KD Rq), FR V F ts → (∀ v, Ks v = Kd v .same) → δ.den (f M P V F g b Ks Kd) = some r → ∃ v d, evV P g b ts o = some (v, d) ∧ δ.den (Kd v d) = some r
theorem gen_ok {o : Oper} (hc : callee o = none) {Rq : Type} {d : ArmD Rq} (h : (opD o.op : ArmD Rq) = d) : KindOk P o (.op (genF d o) : Kind Rq) := by
  refine ⟨hc, fun {R M} δ r V F ts g b Ks Kd T hs hk => ?_⟩
  dsimp only [genF] at hk
  rw [T.ev, ← h, opD_eq, evD_nat] at hk
  cases e : evV P g b ts o with
  | none => rw [e, Option.bind_none, δ.n0] at hk; cases hk
  | some p => rw [e, Option.bind_some] at hk; exact ⟨p.1, p.2, rfl, hk⟩
theorem genC_ok {o : Oper} (hc : callee o = none) {Rq : Type} {dC : (R : Type) → ArmC R} {dD : (R : Type) → ArmD R} (hn : NatC dC dD) (h : ∀ R : Type, (opD o.op : ArmD R) = dD R) : KindOk P o (.op (genC (dC Rq) o) : Kind Rq) := by
  refine ⟨hc, fun {R M} δ r V F ts g b Ks Kd T hs hk => ?_⟩
  dsimp only [genC] at hk
  rw [hn δ.den M.cnd δ.n0 δ.cn, T.ev, ← h, opD_eq, evD_nat] at hk
  cases e : evV P g b ts o with
  | none => rw [e, Option.bind_none] at hk; cases hk
  | some p => rw [e, Option.bind_some] at hk; exact ⟨p.1, p.2, rfl, hk⟩
theorem kind_ok (o : Oper) {Rq : Type} : KindOk P o (kindOf P o : Kind Rq) := by
  have cn : ∀ {op : Op}, o.op = op → (∀ c, op ≠ .call c) → callee o = none := fun {op} h hn => by
    unfold callee
    rw [h]
    cases op <;> first | rfl | exact absurd rfl (hn _)
  have gn : ∀ {op : Op} {d : ArmD Rq}, o.op = op → (∀ c, op ≠ .call c) → (opD op : ArmD Rq) = d → KindOk P o (.op (genF d o) : Kind Rq) := fun {op d} h hn hd => gen_ok (cn h hn) (by rw [h]; exact hd)
  unfold kindOf
  split
  · rename_i x ho; exact ⟨(cn ho (by simp)), fun δ r V F ts g b Ks Kd T hs hk => mov_arm (.inl ho) δ r V F ts g b Ks Kd T hs hk⟩
  · rename_i x ho; exact ⟨(cn ho (by simp)), fun δ r V F ts g b Ks Kd T hs hk => mov_arm (.inr ho) δ r V F ts g b Ks Kd T hs hk⟩
  · rename_i ho; exact gn ho (by simp) rfl
  · rename_i t x ho
    have hc := cn ho (by simp)
    unfold kLoad
    split
    · rename_i i h1 h2; exact ⟨hc, fun δ r V F ts g b Ks Kd T hs hk => ld_arm ho h1 h2 δ r V F ts g b Ks Kd T hs hk⟩
    · rename_i i h1 h2; exact ⟨hc, fun δ r V F ts g b Ks Kd T hs hk => ldG_arm ho h1 h2 δ r V F ts g b Ks Kd T hs hk⟩
    · exact gn ho (by simp) rfl
  · rename_i t x y ho
    have hc := cn ho (by simp)
    unfold kStore
    split
    · rename_i i h1 h2 h3; exact ⟨hc, fun δ r V F ts g b Ks Kd T hs hk => st_arm ho (Nat.eq_of_beq_eq_true h2) h3 δ r V F ts g b Ks Kd T hs hk⟩
    · exact gn ho (by simp) rfl
  · rename_i ho; exact gn ho (by simp) rfl
  · rename_i ho; exact gn ho (by simp) rfl
  · rename_i ho; exact gn ho (by simp) rfl
  · rename_i ho; exact gn ho (by simp) rfl
  · rename_i ho; exact gn ho (by simp) rfl
  · rename_i s x f ho
    have hc := cn ho (by simp)
    unfold kField
    split
    · rename_i fs h1
      split
      · rename_i fd h2
        split
        · rename_i i h3
          split
          · rename_i h4; rw [hdS_eq]; exact ⟨hc, fun δ r V F ts g b Ks Kd T hs hk => fa_arm ho h1 h2 h3 h4 δ r V F ts g b Ks Kd T hs hk⟩
          · exact gn ho (by simp) rfl
        · exact gn ho (by simp) rfl
      · exact gn ho (by simp) rfl
    · exact gn ho (by simp) rfl
  · rename_i t x ix ho
    have hc := cn ho (by simp)
    unfold kIndex
    split
    · rename_i e h1
      split
      · rename_i i h2; rw [hdS_eq]; exact ⟨hc, fun δ r V F ts g b Ks Kd T hs hk => ia_arm ho h1 h2 δ r V F ts g b Ks Kd T hs hk⟩
      · exact gn ho (by simp) rfl
    · rename_i n e h1
      split
      · rename_i i h2; rw [hdS_eq]; exact ⟨hc, fun δ r V F ts g b Ks Kd T hs hk => iaG_arm ho h1 h2 δ r V F ts g b Ks Kd T hs hk⟩
      · exact gn ho (by simp) rfl
    · exact gn ho (by simp) rfl
  · rename_i t x lo hi mx ho; exact genC_ok (cn ho (by simp)) (sliceC_nat t x lo hi mx) fun R => by rw [ho]; rfl
  · rename_i t l c ho; exact genC_ok (cn ho (by simp)) (makeSC_nat t l c) fun R => by rw [ho]; rfl
  · rename_i ho; exact ⟨(cn ho (by simp)), fun δ r V F ts g b Ks Kd T hs hk => ex_arm ho δ r V F ts g b Ks Kd T hs hk⟩
  · rename_i t x f ho
    have hc := cn ho (by simp)
    unfold kPart
    split
    · rename_i fs h1
      split
      · rename_i fd h2
        split
        · rename_i i h3 h4; rw [hdS_eq]; exact ⟨hc, fun δ r V F ts g b Ks Kd T hs hk => fl_arm ho h1 h2 h3 h4 δ r V F ts g b Ks Kd T hs hk⟩
        · exact gn ho (by simp) rfl
      · exact gn ho (by simp) rfl
    · exact gn ho (by simp) rfl
  · rename_i t x ix ho
    unfold kString
    split
    · rename_i h1; exact ⟨cn ho (by simp), fun δ r V F ts g b Ks Kd T hs hk => ix_arm ho h1 δ r V F ts g b Ks Kd T hs hk⟩
    · exact gn ho (by simp) rfl
  · rename_i ho; exact gn ho (by simp) rfl
  · rename_i op t x y yt ho
    have hc := cn ho (by simp)
    unfold kBin
    split
    · split
      · rename_i h e; exact ⟨hc, fun δ r V F ts g b Ks Kd T hs hk => alu_arm ho e δ r V F ts g b Ks Kd T hs hk⟩
      · split
        · rename_i g h e; exact ⟨hc, fun δ r V F ts g b Ks Kd T hs hk => div_arm ho e δ r V F ts g b Ks Kd T hs hk⟩
        · split
          · rename_i h e; exact ⟨hc, fun δ r V F ts g b Ks Kd T hs hk => sh_arm ho e δ r V F ts g b Ks Kd T hs hk⟩
          · exact gn ho (by simp) rfl
    · exact gn ho (by simp) rfl
  · rename_i s d x ho
    have hc := cn ho (by simp)
    unfold kConv
    split
    · rename_i k' h1
      split
      · rename_i k h2; exact ⟨hc, fun δ r V F ts g b Ks Kd T hs hk => cv_arm ho h1 h2 δ r V F ts g b Ks Kd T hs hk⟩
      · exact genC_ok hc (convC_nat s d x) fun R => by rw [ho]; rfl
    · exact genC_ok hc (convC_nat s d x) fun R => by rw [ho]; rfl
  · rename_i c ho
    have hb : ∀ {b : Builtin} {d : ArmD Rq}, c.callee = .builtin b → (builtD c : ArmD Rq) = d → KindOk P o (.op (genF d o) : Kind Rq) := fun {b d} h hd => gen_ok (by unfold callee; rw [ho]; simp only [h]) (by rw [ho]; exact hd)
    unfold kCall
    split
    · rename_i f hf; show callee o = _; unfold callee; rw [ho]; simp only [hf]
    · rename_i hf; exact hb hf (by unfold builtD; rw [hf])
    · rename_i hf; exact genC_ok (by unfold callee; rw [ho]; simp only [hf]) (appC_nat c) fun R => by rw [ho]; show builtD c = _; unfold builtD; rw [hf]
    · rename_i hf; exact genC_ok (by unfold callee; rw [ho]; simp only [hf]) (copC_nat c) fun R => by rw [ho]; show builtD c = _; unfold builtD; rw [hf]
    · rename_i b h1 h2 h3 hf
      refine hb hf ?_
      unfold builtD
      rw [hf]
      cases b <;> first | rfl | exact absurd rfl h1 | exact absurd rfl h2 | exact absurd rfl h3
    · rename_i h1 h2 h3 h4 h5
      refine gen_ok ?_ ?_
      · unfold callee
        rw [ho]
        cases hcc : c.callee with
        | value f => exact absurd hcc (h1 f)
        | _ => simp only [hcc]
      · rw [ho]
        show builtD c = noneD
        unfold builtD
        split <;> first | (rename_i hf; exact absurd hf (h5 _)) | rfl | (rename_i hf; first | exact absurd hf h2 | exact absurd hf h3 | exact absurd hf h4)
  · rename_i ho
    refine gen_ok ?_ ?_
    · unfold callee
      split
      · rename_i c hc; first | exact absurd hc (by assumption) | (exfalso; simp_all)
      · rfl
    · cases hop : o.op <;> first
        | rfl
        | exact (‹∀ (op : BinOp) (t : TypeId) (x y : Operand) (yt : TypeId), o.op = .binOp op t x y yt → False› _ _ _ _ _ hop).elim
        | exact (‹∀ (t : TypeId) (x : Operand) (lo hi mx : Option Operand), o.op = .slice t x lo hi mx → False› _ _ _ _ _ hop).elim
        | (exfalso; simp_all; done)
end
end Go.Proofs.YtipigcgegmedeaaGreat.Ev
