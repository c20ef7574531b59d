/- The evaluator's append. -/
import Derived.Test.YtipigcgegmedeaaGreatEh
namespace Go.Proofs.YtipigcgegmedeaaGreat.Ev
open Go
set_option linter.unusedVariables false
set_option linter.unusedSimpArgs false
noncomputable section
variable {R : Type} {P : Program} {K : KD R} {r : R} {m : Nam} {U : Nat → Prop} {base : Nat} {h : Gt} {w : World} {o : Oper} {a : Act} {ts : List AV}

def noInt (d : Option TypeDesc) : Bool :=
  match d with
  | some (.int _) => false
  | some _ => true
  | none => false
/-- The longer slice in a block of its own: the old one's name is dead. -/
def growD (base : Nat) (p : Adr) (B : Blk) (ie : TypeInfo) (len n : Nat) (cols : List Col) (row : Nat) (K : KD R) : Option R :=
  bif Nat.ble ((len + n) * ie.bytes) (2 ^ 44) then
    K (.slice ⟨⟨base, 0⟩, 0, 0⟩ ie.size (len + n) none) (.grow p.nm ⟨len + n, List.zipWith (fun c d => Col.join len p.row row c d) B.cols cols, 0⟩)
  else none
def zeroOk (ie : TypeInfo) : Bool :=
  match ie.zero with
  | some z => Nat.beq z.cells.size ie.size
  | none => false
theorem zeroOk_real {ie : TypeInfo} (h : zeroOk ie = true) : ∃ z, ie.zero = some z ∧ z.cells.size = ie.size := by
  unfold zeroOk at h
  split at h
  · exact ⟨_, by assumption, Nat.eq_of_beq_eq_true h⟩
  · cases h
def appendD (P : Program) (g : Gt) (base : Nat) (st xt : TypeId) (s x : AV) (K : KD R) : Option R :=
  match P.underlying st with
  | some (.slice e) => bif noInt (P.underlying xt) then
      match P.info? e with
      | some ie => bif zeroOk ie && Nat.ble 1 ie.bytes && Nat.ble ie.bytes (2 ^ 20) then
          srcE g ie.size x fun n cols row =>
            match s with
            | .nils => bif Nat.beq n 0 then K .nils .same else
                bif Nat.ble (n * ie.bytes) (2 ^ 44) then K (.slice ⟨⟨base, 0⟩, 0, 0⟩ ie.size n none) (.new ⟨n, cols.map fun d => Col.join 0 0 row d d, 0⟩) else none
            | .slice p es len cap => bif Nat.beq n 0 then K (.slice p es len cap) .same else
                match g p.nm with
                | some B => bif Nat.beq p.col 0 && Nat.beq B.cols.length ie.size && Nat.beq es ie.size && Nat.ble (p.row + len) B.rows then
                    match cap with
                    | some c => bif Nat.ble (len + n) c then
                        bif Nat.ble (p.row + len + n) B.rows then
                          K (.slice p es (len + n) (some c)) (.put p.nm { B with cols := List.zipWith (fun c d => Col.lay (p.row + len) n row d c) B.cols cols, st := B.st + 1 })
                        else none
                      else growD base p B ie len n cols row K
                    | none => growD base p B ie len n cols row K
                  else none
                | none => none
            | _ => none
        else none
      | none => none
    else none
  | _ => none

theorem append_fit {ats : Array TypeId} {ty st xt e : TypeId} {xd : TypeDesc} {ie : TypeInfo} {y : Value} {b o l c' n : Nat} {w : World} {xs : List Value} (h0 : ats[0]? = some st) (h1 : ats[1]? = some xt)
    (hst : P.underlying st = some (.slice e)) (hxt : P.underlying xt = some xd) (hni : noInt (some xd) = true) (hi : P.info? e = some ie) (hn : (Builtin.lenOf y).run P w = .ok n w) (hc : l + n ≤ c')
    (hx : (Builtin.firstCells ie.size n y).run P w = .ok xs.toArray w) {w' : World} (hs : (storeCells ⟨b, o + l * ie.size, none⟩ xs).run P w = .ok () w') :
    (Builtin.append_ ats ty #[.slice (some ⟨b, o, none⟩) l c', y]).run P w = .ok (.slice (some ⟨b, o, none⟩) (l + n) c') w' := by
  cases xd <;> first
    | (simp [noInt] at hni; done)
    | simp only [Builtin.append_, h0, h1, List.getElem?_toArray, List.getElem?_cons_zero, List.getElem?_cons_succ, Sem.run_bind, run_underlying hst, run_underlying hxt, Result.andThen_ok, sizeOf_run hi, Sem.run_pure, Sem.run_ite, Bool.false_eq_true, if_false, hn, hc, if_true, Bool.not_false, hx, addr_add, hs]
theorem append_nil {ats : Array TypeId} {ty st xt e : TypeId} {xd : TypeDesc} {ie : TypeInfo} {y : Value} {w : World} (h0 : ats[0]? = some st) (h1 : ats[1]? = some xt)
    (hst : P.underlying st = some (.slice e)) (hxt : P.underlying xt = some xd) (hni : noInt (some xd) = true) (hi : P.info? e = some ie) (hn : (Builtin.lenOf y).run P w = .ok 0 w)
    (hx : (Builtin.firstCells ie.size 0 y).run P w = .ok #[] w) :
    (Builtin.append_ ats ty #[.slice none 0 0, y]).run P w = .ok (.slice none 0 0) w := by
  cases xd <;> first
    | (simp [noInt] at hni; done)
    | simp only [Builtin.append_, h0, h1, List.getElem?_toArray, List.getElem?_cons_zero, List.getElem?_cons_succ, Sem.run_bind, run_underlying hst, run_underlying hxt, Result.andThen_ok, sizeOf_run hi, Sem.run_pure, Sem.run_ite, Bool.false_eq_true, if_false, hn, Nat.le_refl, Nat.add_zero, if_true, Bool.not_false, hx]
theorem append_grow {ats : Array TypeId} {ty st xt e : TypeId} {xd : TypeDesc} {ie : TypeInfo} {z y : Value} {q : Option Addr} {l c' n : Nat} {w : World} {xs old : List Value} (h0 : ats[0]? = some st) (h1 : ats[1]? = some xt)
    (hst : P.underlying st = some (.slice e)) (hxt : P.underlying xt = some xd) (hni : noInt (some xd) = true) (hi : P.info? e = some ie) (hz0 : ie.zero = some z) (hn : (Builtin.lenOf y).run P w = .ok n w) (hc : ¬ l + n ≤ c')
    (hx : ∀ w' : World, w'.heap = w.heap → (Builtin.firstCells ie.size n y).run P w' = .ok xs.toArray w') (hold : ∀ w' : World, w'.heap = w.heap → (Builtin.firstCells ie.size l (.slice q l c')).run P w' = .ok old.toArray w')
    (hb : 1 ≤ ie.bytes) (hb2 : ie.bytes ≤ 2 ^ 20) (hfit : (l + n) * ie.bytes ≤ 2 ^ 44) :
    ∃ cap rest d, l + n ≤ cap ∧ rest.length = (cap - (l + n)) * z.cells.size ∧
      (Builtin.append_ ats ty #[.slice q l c', y]).run P w = .ok (.slice (some ⟨w.heap.size, 0, none⟩) (l + n) cap) (World.push { w with drawn := d } (.cells (old ++ xs ++ rest).toArray e (0, 0))) := by
  have hneed : l + n ≤ 2 ^ 44 := Nat.le_trans (Nat.le_mul_of_pos_right _ hb) hfit
  have hcap : Builtin.nextslicecap (l + n) c' * ie.bytes ≤ 2 ^ 48 := by
    have g1 := Nat.mul_le_mul_right ie.bytes (nextcap_le (Nat.lt_of_not_le hc))
    rw [Nat.add_mul, Nat.mul_assoc] at g1
    omega
  have hb0 : (ie.bytes = 0) = False := by simp; omega
  have hmax' : True := trivial
  refine ⟨(Question.appendCap (l + n) c' e).cut (w.tape w.drawn (Question.appendCap (l + n) c' e)), (Builtin.zeroCells z.cells ((Question.appendCap (l + n) c' e).cut (w.tape w.drawn (Question.appendCap (l + n) c' e)) - (l + n))).toList, w.drawn + 1, ?_, ?_, ?_⟩
  · simp only [Question.cut]; omega
  · simp [Builtin.zeroCells]
  · cases xd <;> first
      | (simp [noInt] at hni; done)
      | (simp only [Builtin.append_, h0, h1, List.getElem?_toArray, List.getElem?_cons_zero, List.getElem?_cons_succ, Sem.run_bind, run_underlying hst, run_underlying hxt, Result.andThen_ok, sizeOf_run hi, info_run hi, Sem.run_pure, Sem.run_ite, Bool.false_eq_true, if_false, hn, hc, hmax', Nat.not_lt.2 hcap, gt_iff_lt,
          run_choose, Question.forced, run_askRoom, hx { w with drawn := w.drawn + 1 } rfl, hold { w with drawn := w.drawn + 1 } rfl, Bool.not_false, if_true, zeroV_run hi hz0, newRow, run_newObj, false_or, hb0, and_false]
         refine congrArg _ ?_
         simp only [World.push]
         congr 3
         apply Array.ext'
         simp)
end
end Go.Proofs.YtipigcgegmedeaaGreat.Ev
