/- A quick evaluator for closed calls: numbers, and one operation by closed pieces. -/
import Derived.Test.YtfjficoohknnmaaGreatEu
namespace Go.Proofs.YtfjficoohknnmaaGreat.Ev
open Go
set_option linter.unusedVariables false
set_option linter.unusedSimpArgs false
noncomputable section
variable {R : Type} {P : Program}

/-! ### Numbers -/
def kcode : IntKind → Nat
  | .i8 => 0 | .i16 => 1 | .i32 => 2 | .i64 => 3 | .u8 => 4 | .u16 => 5 | .u32 => 6 | .u64 => 7
def eqK (a b : IntKind) : Bool := Nat.beq (kcode a) (kcode b)
theorem eqK_eq {a b : IntKind} (h : eqK a b = true) : a = b := by cases a <;> cases b <;> first | rfl | cases h
def wU (m : Nat) (k : IntKind) (n : Int) : Int := match n with
  | .ofNat x => .ofNat (Nat.mod x m)
  | .negSucc x => k.wrap (.negSucc x)
def wS (m : Nat) (k : IntKind) (n : Int) : Int := match n with
  | .ofNat x => bif Nat.ble m x then k.wrap (.ofNat x) else .ofNat x
  | .negSucc x => bif Nat.ble m x then k.wrap (.negSucc x) else .negSucc x
def wrapQ (k : IntKind) : Int → Int := match k with
  | .i8 => wS 128 .i8
  | .i16 => wS 32768 .i16
  | .i32 => wS 2147483648 .i32
  | .i64 => wS 9223372036854775808 .i64
  | .u8 => wU 256 .u8
  | .u16 => wU 65536 .u16
  | .u32 => wU 4294967296 .u32
  | .u64 => wU 18446744073709551616 .u64
theorem wU_eq {k : IntKind} {m : Nat} (hs : k.signed = false) (hm : (2 : Int) ^ k.bits = m) (n : Int) : wU m k n = k.wrap n := by
  cases n with
  | ofNat x => simp only [wU, IntKind.wrap, hs, hm, Bool.false_and, Bool.false_eq_true, if_false]; rfl
  | negSucc x => rfl
theorem wS_eq {k : IntKind} {m : Nat} (hs : k.signed = true) (hm : (2 : Int) ^ k.bits = 2 * m) (hh : (2 : Int) ^ (k.bits - 1) = m) (h0 : 0 < m) (n : Int) : wS m k n = k.wrap n := by
  cases n with
  | ofNat x =>
    cases hb : Nat.ble m x with
    | true => simp only [wS, hb, cond_true]
    | false =>
      have hx : x < m := by
        have := Nat.ble_eq (x := m) (y := x); rw [hb] at this; simp at this; exact this
      simp only [wS, hb, cond_false, IntKind.wrap, hs, hm, hh, Bool.true_and]
      have e : (Int.ofNat x) % (2 * (m : Int)) = (x : Int) := Int.emod_eq_of_lt (by simp) (by simp only [Int.ofNat_eq_natCast]; omega)
      rw [e, if_neg (by simp; omega)]; rfl
  | negSucc x =>
    cases hb : Nat.ble m x with
    | true => simp only [wS, hb, cond_true]
    | false =>
      have hx : x < m := by
        have := Nat.ble_eq (x := m) (y := x); rw [hb] at this; simp at this; exact this
      simp only [wS, hb, cond_false, IntKind.wrap, hs, hm, hh, Bool.true_and]
      have e : (Int.negSucc x) % (2 * (m : Int)) = 2 * (m : Int) - 1 - x := by
        rw [← Int.add_mul_emod_self_left (Int.negSucc x) (2 * (m : Int)) 1]
        rw [Int.emod_eq_of_lt (by omega) (by omega)]
        omega
      rw [e, if_pos (by simp; omega)]; omega
theorem wrapQ_eq (k : IntKind) (n : Int) : wrapQ k n = k.wrap n := by
  cases k <;> first | exact wU_eq rfl (by decide) n | exact wS_eq rfl (by decide) (by decide) (by decide) n
def addQ (a b : Int) : Int := match a, b with
  | .ofNat x, .ofNat y => .ofNat (Nat.add x y)
  | a, b => a + b
def subQ (a b : Int) : Int := match a, b with
  | .ofNat x, .ofNat y => bif Nat.ble y x then .ofNat (Nat.sub x y) else .ofNat x - .ofNat y
  | a, b => a - b
def mulQ (a b : Int) : Int := match a, b with
  | .ofNat x, .ofNat y => .ofNat (Nat.mul x y)
  | a, b => a * b
def eqQ (a b : Int) : Bool := match a, b with
  | .ofNat x, .ofNat y => Nat.beq x y
  | .negSucc x, .negSucc y => Nat.beq x y
  | _, _ => false
def ltQ (a b : Int) : Bool := match a, b with
  | .ofNat x, .ofNat y => Nat.ble (Nat.succ x) y
  | .negSucc x, .negSucc y => Nat.ble (Nat.succ y) x
  | .ofNat _, .negSucc _ => false
  | .negSucc _, .ofNat _ => true
theorem addQ_eq (a b : Int) : addQ a b = a + b := by cases a <;> cases b <;> rfl
theorem mulQ_eq (a b : Int) : mulQ a b = a * b := by cases a <;> cases b <;> rfl
theorem subQ_eq (a b : Int) : subQ a b = a - b := by
  cases a with
  | ofNat x =>
    cases b with
    | ofNat y =>
      simp only [subQ]
      cases h : Nat.ble y x with
      | false => rfl
      | true => exact Int.ofNat_sub (Nat.le_of_ble_eq_true h)
    | negSucc y => rfl
  | negSucc x => cases b <;> rfl
theorem eqQ_eq (a b : Int) : eqQ a b = (a == b) := by
  rw [Bool.eq_iff_iff, beq_iff_eq]
  cases a with
  | ofNat x =>
    cases b with
    | ofNat y => simp only [eqQ, Nat.beq_eq, Int.ofNat_eq_natCast]; omega
    | negSucc y => simp only [eqQ, Int.ofNat_eq_natCast]; constructor <;> intro h <;> first | cases h | omega
  | negSucc x =>
    cases b with
    | ofNat y => simp only [eqQ, Int.ofNat_eq_natCast]; constructor <;> intro h <;> first | cases h | omega
    | negSucc y => simp only [eqQ, Nat.beq_eq]; omega
theorem ltQ_iff (a b : Int) : ltQ a b = true ↔ a < b := by
  cases a with
  | ofNat x =>
    cases b with
    | ofNat y => simp only [ltQ, Nat.ble_eq, Int.ofNat_eq_natCast]; omega
    | negSucc y => exact ⟨fun h => (by cases h), fun h => (by exfalso; have := Int.negSucc_lt_zero y; have h2 : (x : Int) < Int.negSucc y := h; omega)⟩
  | negSucc x =>
    cases b with
    | ofNat y => exact ⟨fun _ => (by have := Int.negSucc_lt_zero x; show Int.negSucc x < (y : Int); omega), fun _ => rfl⟩
    | negSucc y => simp only [ltQ, Nat.ble_eq]; omega
theorem ltQ_eq (a b : Int) : ltQ a b = decide (a < b) := by
  rw [Bool.eq_iff_iff, ltQ_iff, decide_eq_true_iff]
theorem leQ_eq (a b : Int) : (bif ltQ b a then false else true) = decide (a ≤ b) := by
  rw [ltQ_eq]
  by_cases h : b < a
  · rw [decide_eq_true h, decide_eq_false (by omega)]; rfl
  · rw [decide_eq_false h, decide_eq_true (by omega)]; rfl
theorem neQ_eq (a b : Int) : (bif eqQ a b then false else true) = (a != b) := by
  rw [eqQ_eq]; unfold bne; cases a == b <;> rfl
abbrev ArmI := IntKind → Int → Int → Option AV
def armBin : BinOp → ArmI
  | .add => fun k a b => some (.int k (wrapQ k (addQ a b)))
  | .sub => fun k a b => some (.int k (wrapQ k (subQ a b)))
  | .mul => fun k a b => some (.int k (wrapQ k (mulQ a b)))
  | .eql => fun _ a b => some (.bool (eqQ a b))
  | .neq => fun _ a b => some (.bool (bif eqQ a b then false else true))
  | .lss => fun _ a b => some (.bool (ltQ a b))
  | .leq => fun _ a b => some (.bool (bif ltQ b a then false else true))
  | .gtr => fun _ a b => some (.bool (ltQ b a))
  | .geq => fun _ a b => some (.bool (bif ltQ a b then false else true))
  | _ => fun _ _ _ => none
def fastBin (op : BinOp) (x y : AV) : Option AV :=
  match x with
  | .int k a => match y with
    | .int k' b => bif eqK k k' then armBin op k a b else none
    | _ => none
  | _ => none
theorem toV_int (k : IntKind) (n : Int) : toV 3 (.int k n) = some (.int k n) := rfl
theorem fastBin_eq {op : BinOp} {t yt : TypeId} {x y : Operand} {v : AV} {ts : List AV} {o : Oper} {g : Gt} {base : Nat} (K : KD R) (ho : o.op = .binOp op t x y yt) (h : fastBin op (evA ts x) (evA ts y) = some v) : evD P g base ts o K = K v .same := by
  unfold fastBin at h
  split at h
  · rename_i k a hx
    split at h
    · rename_i k' b hy
      cases hk : eqK k k' with
      | false => rw [hk] at h; cases h
      | true =>
        rw [hk] at h
        simp only [cond_true] at h
        have := eqK_eq hk
        subst this
        have hc : cmpE P op t (evA ts x) (evA ts y) = none := by
          rw [hx, hy]
          cases op <;> simp only [cmpE] <;> (split <;> first | rfl | (exfalso; simp_all; done))
        have hp : evD P g base ts o K = plainE P ts o fun v => K v .same := by
          unfold evD
          rw [ho]
          simp only [hc]
        rw [hp]
        unfold plainE
        rw [ho]
        have hall : (Op.binOp op t x y yt).operands.toList.all (fun x => (toV 3 (evA ts x)).isSome) = true := by
          simp only [Op.operands]
          simp [hx, hy, toV_int]
        simp only [hall, cond_true, execOp, ho, hx, hy, toV_int, Option.getD_some]
        cases op <;> simp only [armBin, leQ_eq, neQ_eq] at h <;> cases h <;>
          simp [eqGuard, Go.binOp, Op.intArith, Op.intCmp, semE, ofV, wrapQ_eq, addQ_eq, subQ_eq, mulQ_eq, eqQ_eq, ltQ_eq, bind, Sem.bind, pure, -Bool.cond_false_left, -Bool.cond_true_right]
    · cases h
  · cases h
end
end Go.Proofs.YtfjficoohknnmaaGreat.Ev
