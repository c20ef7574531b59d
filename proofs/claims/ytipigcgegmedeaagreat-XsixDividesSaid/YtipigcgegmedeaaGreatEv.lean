/- A quick evaluator for closed calls: numbers, and one operation by closed pieces. -/
import Derived.Test.YtipigcgegmedeaaGreatEu
namespace Go.Proofs.YtipigcgegmedeaaGreat.Ev
open Go
set_option linter.unusedVariables false
set_option linter.unusedSimpArgs false
noncomputable section
variable {R : Type} {P : Program}

/-! ### Numbers -/
def kcode : IntKind → Nat
  | .i8 => 0 | .i16 => 1 | .i32 => 2 | .i64 => 3 | .u8 => 4 | .u16 => 5 | .u32 => 6 | .u64 => 7
def eqK (a b : IntKind) : Bool := Nat.beq (kcode a) (kcode b)
theorem eqK_eq {a b : IntKind} (h : eqK a b = true) : a = b := by cases a <;> cases b <;> first | rfl | cases h
def wU (m : Nat) (k : IntKind) (n : Int) : Int := match n with
  | .ofNat x => .ofNat (Nat.mod x m)
  | .negSucc x => k.wrap (.negSucc x)
def wS (m : Nat) (k : IntKind) (n : Int) : Int := match n with
  | .ofNat x => bif Nat.ble m x then k.wrap (.ofNat x) else .ofNat x
  | .negSucc x => bif Nat.ble m x then k.wrap (.negSucc x) else .negSucc x
def wrapQ (k : IntKind) : Int → Int := match k with
  | .i8 => wS 128 .i8
  | .i16 => wS 32768 .i16
  | .i32 => wS 2147483648 .i32
  | .i64 => wS 9223372036854775808 .i64
  | .u8 => wU 256 .u8
  | .u16 => wU 65536 .u16
  | .u32 => wU 4294967296 .u32
  | .u64 => wU 18446744073709551616 .u64
theorem wU_eq {k : IntKind} {m : Nat} (hs : k.signed = false) (hm : (2 : Int) ^ k.bits = m) (n : Int) : wU m k n = k.wrap n := by
  cases n with
  | ofNat x => simp only [wU, IntKind.wrap, hs, hm, Bool.false_and, Bool.false_eq_true, if_false]; rfl
  | negSucc x => rfl
theorem wS_eq {k : IntKind} {m : Nat} (hs : k.signed = true) (hm : (2 : Int) ^ k.bits = 2 * m) (hh : (2 : Int) ^ (k.bits - 1) = m) (h0 : 0 < m) (n : Int) : wS m k n = k.wrap n := by
  cases n with
  | ofNat x =>
    cases hb : Nat.ble m x with
    | true => simp only [wS, hb, cond_true]
    | false =>
      have hx : x < m := by
        have := Nat.ble_eq (x := m) (y := x); rw [hb] at this; simp at this; exact this
      simp only [wS, hb, cond_false, IntKind.wrap, hs, hm, hh, Bool.true_and]
      have e : (Int.ofNat x) % (2 * (m : Int)) = (x : Int) := Int.emod_eq_of_lt (by simp) (by simp only [Int.ofNat_eq_natCast]; omega)
      rw [e, if_neg (by simp; omega)]; rfl
  | negSucc x =>
    cases hb : Nat.ble m x with
    | true => simp only [wS, hb, cond_true]
    | false =>
      have hx : x < m := by
        have := Nat.ble_eq (x := m) (y := x); rw [hb] at this; simp at this; exact this
      simp only [wS, hb, cond_false, IntKind.wrap, hs, hm, hh, Bool.true_and]
      have e : (Int.negSucc x) % (2 * (m : Int)) = 2 * (m : Int) - 1 - x := by
        rw [← Int.add_mul_emod_self_left (Int.negSucc x) (2 * (m : Int)) 1]
        rw [Int.emod_eq_of_lt (by omega) (by omega)]
        omega
      rw [e, if_pos (by simp; omega)]; omega
theorem wrapQ_eq (k : IntKind) (n : Int) : wrapQ k n = k.wrap n := by
  cases k <;> first | exact wU_eq rfl (by decide) n | exact wS_eq rfl (by decide) (by decide) (by decide) n
def addQ (a b : Int) : Int := match a, b with
  | .ofNat x, .ofNat y => .ofNat (Nat.add x y)
  | a, b => a + b
def subQ (a b : Int) : Int := match a, b with
  | .ofNat x, .ofNat y => bif Nat.ble y x then .ofNat (Nat.sub x y) else .ofNat x - .ofNat y
  | a, b => a - b
def mulQ (a b : Int) : Int := match a, b with
  | .ofNat x, .ofNat y => .ofNat (Nat.mul x y)
  | a, b => a * b
def eqQ (a b : Int) : Bool := match a, b with
  | .ofNat x, .ofNat y => Nat.beq x y
  | .negSucc x, .negSucc y => Nat.beq x y
  | _, _ => false
def ltQ (a b : Int) : Bool := match a, b with
  | .ofNat x, .ofNat y => Nat.ble (Nat.succ x) y
  | .negSucc x, .negSucc y => Nat.ble (Nat.succ y) x
  | .ofNat _, .negSucc _ => false
  | .negSucc _, .ofNat _ => true
theorem addQ_eq (a b : Int) : addQ a b = a + b := by cases a <;> cases b <;> rfl
theorem mulQ_eq (a b : Int) : mulQ a b = a * b := by cases a <;> cases b <;> rfl
theorem subQ_eq (a b : Int) : subQ a b = a - b := by
  cases a with
  | ofNat x =>
    cases b with
    | ofNat y =>
      simp only [subQ]
      cases h : Nat.ble y x with
      | false => rfl
      | true => exact Int.ofNat_sub (Nat.le_of_ble_eq_true h)
    | negSucc y => rfl
  | negSucc x => cases b <;> rfl
theorem eqQ_eq (a b : Int) : eqQ a b = (a == b) := by
  rw [Bool.eq_iff_iff, beq_iff_eq]
  cases a with
  | ofNat x =>
    cases b with
    | ofNat y => simp only [eqQ, Nat.beq_eq, Int.ofNat_eq_natCast]; omega
    | negSucc y => simp only [eqQ, Int.ofNat_eq_natCast]; constructor <;> intro h <;> first | cases h | omega
  | negSucc x =>
    cases b with
    | ofNat y => simp only [eqQ, Int.ofNat_eq_natCast]; constructor <;> intro h <;> first | cases h | omega
    | negSucc y => simp only [eqQ, Nat.beq_eq]; omega
theorem ltQ_iff (a b : Int) : ltQ a b = true ↔ a < b := by
  cases a with
  | ofNat x =>
    cases b with
    | ofNat y => simp only [ltQ, Nat.ble_eq, Int.ofNat_eq_natCast]; omega
    | negSucc y => exact ⟨fun h => (by cases h), fun h => (by exfalso; have := Int.negSucc_lt_zero y; have h2 : (x : Int) < Int.negSucc y := h; omega)⟩
  | negSucc x =>
    cases b with
    | ofNat y => exact ⟨fun _ => (by have := Int.negSucc_lt_zero x; show Int.negSucc x < (y : Int); omega), fun _ => rfl⟩
    | negSucc y => simp only [ltQ, Nat.ble_eq]; omega
theorem ltQ_eq (a b : Int) : ltQ a b = decide (a < b) := by
  rw [Bool.eq_iff_iff, ltQ_iff, decide_eq_true_iff]
theorem leQ_eq (a b : Int) : (bif ltQ b a then false else true) = decide (a ≤ b) := by
  rw [ltQ_eq]
  by_cases h : b < a
  · rw [decide_eq_true h, decide_eq_false (by omega)]; rfl
  · rw [decide_eq_false h, decide_eq_true (by omega)]; rfl
theorem neQ_eq (a b : Int) : (bif eqQ a b then false else true) = (a != b) := by
  rw [eqQ_eq]; unfold bne; cases a == b <;> rfl
/-! ### Bits, shifts, quotients -/
def andQ (k : IntKind) (a b : Int) : Int := match a, b with
  | .ofNat x, .ofNat y => wrapQ k (.ofNat (Nat.land x y))
  | a, b => k.wrap (BitVec.ofInt k.bits a &&& BitVec.ofInt k.bits b).toNat
def orQ (k : IntKind) (a b : Int) : Int := match a, b with
  | .ofNat x, .ofNat y => wrapQ k (.ofNat (Nat.lor x y))
  | a, b => k.wrap (BitVec.ofInt k.bits a ||| BitVec.ofInt k.bits b).toNat
def xorQ (k : IntKind) (a b : Int) : Int := match a, b with
  | .ofNat x, .ofNat y => wrapQ k (.ofNat (Nat.xor x y))
  | a, b => k.wrap (BitVec.ofInt k.bits a ^^^ BitVec.ofInt k.bits b).toNat
def nandQ (k : IntKind) (a b : Int) : Int := match a, b with
  | .ofNat x, .ofNat y => wrapQ k (.ofNat (Nat.land x (Nat.sub (Nat.sub (Nat.pow 2 k.bits) 1) (Nat.mod y (Nat.pow 2 k.bits)))))
  | a, b => k.wrap (BitVec.ofInt k.bits a &&& ~~~BitVec.ofInt k.bits b).toNat
def lowQ (k : IntKind) (y : Nat) : Nat := bif Nat.ble y k.bits then y else k.bits
def shlQ (k : IntKind) (a b : Int) : Int := match a, b with
  | .ofNat x, .ofNat y => wrapQ k (.ofNat (Nat.mul x (Nat.pow 2 (lowQ k y))))
  | a, b => k.wrap (a * 2 ^ (min b.toNat k.bits))
def shrQ (k : IntKind) (a b : Int) : Int := match a, b with
  | .ofNat x, .ofNat y => .ofNat (Nat.div x (Nat.pow 2 (lowQ k y)))
  | a, b => a.fdiv (2 ^ (min b.toNat k.bits))
def quoQ (k : IntKind) (a b : Int) : Int := match a, b with
  | .ofNat x, .ofNat y => wrapQ k (.ofNat (Nat.div x y))
  | a, b => k.wrap (a.tdiv b)
def remQ (a b : Int) : Int := match a, b with
  | .ofNat x, .ofNat y => .ofNat (Nat.mod x y)
  | a, b => a.tmod b
theorem wrap_emod (k : IntKind) (n : Int) : k.wrap (n % 2 ^ k.bits) = k.wrap n := by
  simp only [IntKind.wrap, Int.emod_emod_of_dvd _ (Int.dvd_refl _)]
theorem ofInt_nat (n x : Nat) : (BitVec.ofInt n (Int.ofNat x)).toNat = x % 2 ^ n := by
  simp [BitVec.toNat_ofInt]
theorem wrap_mod (k : IntKind) (n : Nat) : k.wrap ((n % 2 ^ k.bits : Nat) : Int) = k.wrap (Int.ofNat n) := by
  have : ((n % 2 ^ k.bits : Nat) : Int) = (Int.ofNat n) % 2 ^ k.bits := by simp
  rw [this, wrap_emod]
theorem andQ_eq (k : IntKind) (a b : Int) : andQ k a b = k.wrap (BitVec.ofInt k.bits a &&& BitVec.ofInt k.bits b).toNat := by
  unfold andQ
  split
  · rename_i x y
    rw [wrapQ_eq, BitVec.toNat_and, ofInt_nat, ofInt_nat, ← Nat.and_mod_two_pow, wrap_mod]; rfl
  · rfl
theorem orQ_eq (k : IntKind) (a b : Int) : orQ k a b = k.wrap (BitVec.ofInt k.bits a ||| BitVec.ofInt k.bits b).toNat := by
  unfold orQ
  split
  · rename_i x y
    rw [wrapQ_eq, BitVec.toNat_or, ofInt_nat, ofInt_nat, ← Nat.or_mod_two_pow, wrap_mod]; rfl
  · rfl
theorem xorQ_eq (k : IntKind) (a b : Int) : xorQ k a b = k.wrap (BitVec.ofInt k.bits a ^^^ BitVec.ofInt k.bits b).toNat := by
  unfold xorQ
  split
  · rename_i x y
    rw [wrapQ_eq, BitVec.toNat_xor, ofInt_nat, ofInt_nat, ← Nat.xor_mod_two_pow, wrap_mod]; rfl
  · rfl
theorem nandQ_eq (k : IntKind) (a b : Int) : nandQ k a b = k.wrap (BitVec.ofInt k.bits a &&& ~~~BitVec.ofInt k.bits b).toNat := by
  unfold nandQ
  split
  · rename_i x y
    have hlt : 2 ^ k.bits - 1 - y % 2 ^ k.bits < 2 ^ k.bits := by have : 0 < 2 ^ k.bits := Nat.pow_pos (by decide); omega
    rw [wrapQ_eq, BitVec.toNat_and, BitVec.toNat_not, ofInt_nat, ofInt_nat]
    have e : x % 2 ^ k.bits &&& (2 ^ k.bits - 1 - y % 2 ^ k.bits) = (x &&& (2 ^ k.bits - 1 - y % 2 ^ k.bits)) % 2 ^ k.bits := by
      rw [Nat.and_mod_two_pow, Nat.mod_eq_of_lt hlt]
    rw [e, wrap_mod]; rfl
  · rfl
theorem lowQ_eq (k : IntKind) (y : Nat) : lowQ k y = min y k.bits := by
  unfold lowQ
  cases h : Nat.ble y k.bits with
  | true => exact (Nat.min_eq_left (Nat.le_of_ble_eq_true h)).symm
  | false =>
    have : ¬ y ≤ k.bits := fun c => by rw [Nat.ble_eq_true_of_le c] at h; cases h
    exact (Nat.min_eq_right (by show k.bits ≤ y; omega)).symm
theorem shlQ_eq (k : IntKind) (a b : Int) : shlQ k a b = k.wrap (a * 2 ^ (min b.toNat k.bits)) := by
  unfold shlQ
  split
  · rename_i x y
    rw [wrapQ_eq, lowQ_eq]
    have e : (Int.ofNat (Nat.mul x (Nat.pow 2 (min y k.bits)))) = (Int.ofNat x) * 2 ^ (min (Int.ofNat y).toNat k.bits) := by
      show ((x * 2 ^ (min y k.bits) : Nat) : Int) = _
      simp
    rw [e]
  · rfl
theorem shrQ_eq (k : IntKind) (a b : Int) : shrQ k a b = a.fdiv (2 ^ (min b.toNat k.bits)) := by
  unfold shrQ
  split
  · rename_i x y
    rw [lowQ_eq]
    show ((x / 2 ^ (min y k.bits) : Nat) : Int) = _
    have e : ((2 : Int) ^ (min (Int.ofNat y).toNat k.bits)) = ((2 ^ (min y k.bits) : Nat) : Int) := by simp
    rw [e]
    exact Int.ofNat_fdiv x _
  · rfl
theorem quoQ_eq (k : IntKind) (a b : Int) : quoQ k a b = k.wrap (a.tdiv b) := by
  unfold quoQ
  split
  · rw [wrapQ_eq]; rfl
  · rfl
theorem remQ_eq (a b : Int) : remQ a b = a.tmod b := by
  unfold remQ
  split
  · rfl
  · rfl
abbrev ArmI := IntKind → Int → Int → Option AV
def armBin : BinOp → ArmI
  | .add => fun k a b => some (.int k (wrapQ k (addQ a b)))
  | .sub => fun k a b => some (.int k (wrapQ k (subQ a b)))
  | .mul => fun k a b => some (.int k (wrapQ k (mulQ a b)))
  | .and => fun k a b => some (.int k (andQ k a b))
  | .or => fun k a b => some (.int k (orQ k a b))
  | .xor => fun k a b => some (.int k (xorQ k a b))
  | .andNot => fun k a b => some (.int k (nandQ k a b))
  | .eql => fun _ a b => some (.bool (eqQ a b))
  | .neq => fun _ a b => some (.bool (bif eqQ a b then false else true))
  | .lss => fun _ a b => some (.bool (ltQ a b))
  | .leq => fun _ a b => some (.bool (bif ltQ b a then false else true))
  | .gtr => fun _ a b => some (.bool (ltQ b a))
  | .geq => fun _ a b => some (.bool (bif ltQ a b then false else true))
  | _ => fun _ _ _ => none
def fastBin (op : BinOp) (x y : AV) : Option AV :=
  match x with
  | .int k a => match y with
    | .int k' b => bif eqK k k' then armBin op k a b else none
    | _ => none
  | _ => none
theorem toV_int (k : IntKind) (n : Int) : toV 3 (.int k n) = some (.int k n) := rfl
theorem fastBin_eq {op : BinOp} {t yt : TypeId} {x y : Operand} {v : AV} {ts : List AV} {o : Oper} {g : Gt} {base : Nat} (K : KD R) (ho : o.op = .binOp op t x y yt) (h : fastBin op (evA ts x) (evA ts y) = some v) : evD P g base ts o K = K v .same := by
  unfold fastBin at h
  split at h
  · rename_i k a hx
    split at h
    · rename_i k' b hy
      cases hk : eqK k k' with
      | false => rw [hk] at h; cases h
      | true =>
        rw [hk] at h
        simp only [cond_true] at h
        have := eqK_eq hk
        subst this
        have hc : cmpE P op t (evA ts x) (evA ts y) = none := by
          rw [hx, hy]
          cases op <;> simp only [cmpE] <;> (split <;> first | rfl | (exfalso; simp_all; done))
        have hp : evD P g base ts o K = plainE P ts o fun v => K v .same := by
          unfold evD
          rw [ho]
          simp only [hc]
        rw [hp]
        unfold plainE
        rw [ho]
        have hall : (Op.binOp op t x y yt).operands.toList.all (fun x => (toV 3 (evA ts x)).isSome) = true := by
          simp only [Op.operands]
          simp [hx, hy, toV_int]
        simp only [hall, cond_true, execOp, ho, hx, hy, toV_int, Option.getD_some]
        cases op <;> simp only [armBin, leQ_eq, neQ_eq] at h <;> cases h <;>
          simp [eqGuard, Go.binOp, Op.intArith, Op.intCmp, Op.intBits, semE, ofV, wrapQ_eq, addQ_eq, subQ_eq, mulQ_eq, eqQ_eq, ltQ_eq, andQ_eq, orQ_eq, xorQ_eq, nandQ_eq, bind, Sem.bind, pure, -Bool.cond_false_left, -Bool.cond_true_right]
    · cases h
  · cases h
/-- Operations that ask their second operand: when they stop, and what they give. -/
def gbin : BinOp → IntKind → IntKind → Int → Int → Option (Bool × AV)
  | .quo => fun k k' a b => bif eqK k k' then some (eqQ b 0, .int k (quoQ k a b)) else none
  | .rem => fun k k' a b => bif eqK k k' then some (eqQ b 0, .int k (remQ a b)) else none
  | .shl => fun k _ a b => some (ltQ b 0, .int k (shlQ k a b))
  | .shr => fun k _ a b => some (ltQ b 0, .int k (shrQ k a b))
  | _ => fun _ _ _ _ => none
def guardOf (e : Operand → AV) : Op → Option (Bool × AV)
  | .binOp op _ x y _ => match e x with
    | .int k a => match e y with
      | .int k' b => gbin op k k' a b
      | _ => none
    | _ => none
  | _ => none
theorem guard_eq {ts : List AV} {o : Oper} {g : Gt} {base : Nat} {v : AV} (K : KD R) (h : guardOf (evA ts) o.op = some (false, v)) : evD P g base ts o K = K v .same := by
  unfold guardOf at h
  split at h
  · rename_i op t x y yt ho
    split at h
    · rename_i k a hx
      split at h
      · rename_i k' b hy
        have hc : cmpE P op t (evA ts x) (evA ts y) = none := by
          rw [hx, hy]
          cases op <;> simp only [cmpE] <;> (split <;> first | rfl | (exfalso; simp_all; done))
        have hp : evD P g base ts o K = plainE P ts o fun v => K v .same := by
          unfold evD
          rw [ho]
          simp only [hc]
        rw [hp]
        unfold plainE
        rw [ho]
        have hall : (Op.binOp op t x y yt).operands.toList.all (fun x => (toV 3 (evA ts x)).isSome) = true := by
          simp only [Op.operands]
          simp [hx, hy, toV_int]
        simp only [hall, cond_true, execOp, ho, hx, hy, toV_int, Option.getD_some]
        have zero : eqQ b 0 = false → b ≠ 0 := fun h e => by rw [e] at h; cases h
        have neg : ltQ b 0 = false → ¬ b < 0 := fun h e => by rw [(ltQ_iff b 0).2 e] at h; cases h
        cases op with
        | quo =>
          simp only [gbin] at h
          cases hk : eqK k k' with
          | false => rw [hk] at h; cases h
          | true =>
            rw [hk] at h
            have := eqK_eq hk
            subst this
            simp only [cond_true, Option.some.injEq, Prod.mk.injEq] at h
            obtain ⟨h1, h2⟩ := h
            subst h2
            have hb := zero h1
            simp [eqGuard, Go.binOp, Op.intDiv, semE, ofV, quoQ_eq, bind, Sem.bind, pure, hb]
        | rem =>
          simp only [gbin] at h
          cases hk : eqK k k' with
          | false => rw [hk] at h; cases h
          | true =>
            rw [hk] at h
            have := eqK_eq hk
            subst this
            simp only [cond_true, Option.some.injEq, Prod.mk.injEq] at h
            obtain ⟨h1, h2⟩ := h
            subst h2
            have hb := zero h1
            simp [eqGuard, Go.binOp, Op.intDiv, semE, ofV, remQ_eq, bind, Sem.bind, pure, hb]
        | shl =>
          simp only [gbin, Option.some.injEq, Prod.mk.injEq] at h
          obtain ⟨h1, h2⟩ := h
          subst h2
          have hb := neg h1
          simp [eqGuard, Go.binOp, Op.shift, semE, ofV, shlQ_eq, bind, Sem.bind, pure, hb]
        | shr =>
          simp only [gbin, Option.some.injEq, Prod.mk.injEq] at h
          obtain ⟨h1, h2⟩ := h
          subst h2
          have hb := neg h1
          simp [eqGuard, Go.binOp, Op.shift, semE, ofV, shrQ_eq, bind, Sem.bind, pure, hb]
        | _ => cases h
      · cases h
    · cases h
  · cases h
end
end Go.Proofs.YtipigcgegmedeaaGreat.Ev
