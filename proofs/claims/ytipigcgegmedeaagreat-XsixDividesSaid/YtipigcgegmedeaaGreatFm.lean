/- The operations of slices, with every choice told: what they stand for is what the evaluator's do. -/
import Derived.Test.YtipigcgegmedeaaGreatEw
namespace Go.Proofs.YtipigcgegmedeaaGreat.Ev
open Go
set_option linter.unusedVariables false
set_option linter.unusedSimpArgs false
noncomputable section
variable {R : Type} {P : Program}

abbrev Cn (R : Type) := Bool → Option R → Option R → Option R
section
def boundM (C : Cn R) (v : Option AV) (y d : Nat) (K : Nat → Option R) : Option R :=
  match v with
  | none => K d
  | some (.int _ i) => C (decide (0 ≤ i) && decide (i ≤ (y : Int))) (K i.toNat) none
  | _ => none
def boundsM (C : Cn R) (len cap : Nat) (lo hi mx : Option AV) (K : Nat → Nat → Nat → Option R) : Option R :=
  boundM C mx cap cap fun m => boundM C hi m len fun h => bif mx.isNone || hi.isSome then boundM C lo h 0 fun l => K l h m else none
def sliceM (C : Cn R) (P : Program) (g : Gt) (t : TypeId) (v : AV) (lo hi mx : Option AV) (K : AV → Option R) : Option R :=
  match P.underlying t, v with
  | some (.slice e), .slice p es len cap => match P.info? e with
    | some ie => bif Nat.beq es ie.size then boundsM C len (cap.getD len) lo hi mx fun l hh m =>
        match lo with
        | none => K (.slice p es hh (capR cap mx m 0))
        | some _ => C (Nat.beq m l) (match mx with
            | some _ => K (.slice p es (hh - l) (some (m - l)))
            | none => C (Nat.beq hh l) (K .eslice) none)
          (stepE g p l ie.size fun q => K (.slice q es (hh - l) (capR cap mx m l)))
      else none
    | none => none
  | some (.slice e), .nils => match P.info? e with
    | some ie => boundsM C 0 0 lo hi mx fun l hh m => K .nils
    | none => none
  | some (.array n e), .ptr (some p) => match P.info? e with
    | some ie => match g p.nm with
      | some B => C (Nat.blt p.row B.rows && Nat.ble (p.col + n * ie.size) B.cols.length) (boundsM C n n lo hi mx fun l hh m =>
          match lo with
          | none => K (.slice p ie.size hh (some m))
          | some _ => C (Nat.beq m l) (K (.slice p ie.size (hh - l) (some (m - l)))) (stepE g p l ie.size fun q => K (.slice q ie.size (hh - l) (some (m - l)))))
        none
      | none => none
    | none => none
  | _, _ => none
def srcM (C : Cn R) (g : Gt) (size : Nat) (x : AV) (K : Nat → List Col → Nat → Option R) : Option R :=
  match x with
  | .nils => K 0 [] 0
  | .eslice => K 0 [] 0
  | .str s => bif Nat.beq size 1 then K s.length [.ints .u8 fun i => (((s.getD i 0).toNat : Nat) : Int)] 0 else none
  | .slice q _ n _ => match g q.nm with
    | some D => C (Nat.beq q.col 0 && Nat.beq D.cols.length size && Nat.ble (q.row + n) D.rows) (K n D.cols q.row) none
    | none => none
  | _ => none
def growM (C : Cn R) (base : Nat) (p : Adr) (B : Blk) (ie : TypeInfo) (len n : Nat) (cols : List Col) (row : Nat) (K : KD R) : Option R :=
  C (Nat.ble ((len + n) * ie.bytes) (2 ^ 44))
    (K (.slice ⟨⟨base, 0⟩, 0, 0⟩ ie.size (len + n) none) (.grow p.nm ⟨len + n, List.zipWith (fun c d => Col.join len p.row row c d) B.cols cols, 0⟩)) none
def appendM (C : Cn R) (P : Program) (g : Gt) (base : Nat) (st xt : TypeId) (s x : AV) (K : KD R) : Option R :=
  match P.underlying st with
  | some (.slice e) => bif noInt (P.underlying xt) then
      match P.info? e with
      | some ie => bif zeroOk ie && Nat.ble 1 ie.bytes && Nat.ble ie.bytes (2 ^ 20) then
          srcM C g ie.size x fun n cols row =>
            match s with
            | .nils => C (Nat.beq n 0) (K .nils .same)
                (C (Nat.ble (n * ie.bytes) (2 ^ 44)) (K (.slice ⟨⟨base, 0⟩, 0, 0⟩ ie.size n none) (.new ⟨n, cols.map fun d => Col.join 0 0 row d d, 0⟩)) none)
            | .slice p es len cap => C (Nat.beq n 0) (K (.slice p es len cap) .same)
                (match g p.nm with
                | some B => C (Nat.beq p.col 0 && Nat.beq B.cols.length ie.size && Nat.beq es ie.size && Nat.ble (p.row + len) B.rows)
                    (match cap with
                    | some c => C (Nat.ble (len + n) c)
                        (C (Nat.ble (p.row + len + n) B.rows)
                          (K (.slice p es (len + n) (some c)) (.put p.nm { B with cols := List.zipWith (fun c d => Col.lay (p.row + len) n row d c) B.cols cols, st := B.st + 1 }))
                          none)
                        (growM C base p B ie len n cols row K)
                    | none => growM C base p B ie len n cols row K)
                    none
                | none => none)
            | _ => none
        else none
      | none => none
    else none
  | _ => none
def makeSliceM (C : Cn R) (P : Program) (base : Nat) (t : TypeId) (l c : AV) (K : KD R) : Option R :=
  match P.underlying t, l, c with
  | some (.slice e), .int _ n, .int _ k => match P.info? e with
    | some ie => C (decide (0 ≤ n) && decide (n ≤ k) && decide (k ≤ 2 ^ 47) && decide (ie.bytes * k ≤ 2 ^ 48))
        (zeroL P e fun z => bif Nat.beq z.length ie.size && Nat.ble 1 ie.size && z.all AV.lone then
            K (.slice ⟨⟨base, 0⟩, 0, 0⟩ ie.size n.toNat (some k.toNat)) (.new ⟨k.toNat, z.map Col.const, 0⟩)
          else none)
        none
    | none => none
  | _, _, _ => none
def copyM (C : Cn R) (P : Program) (g : Gt) (dt : TypeId) (d s : AV) (K : KD R) : Option R :=
  match P.underlying dt with
  | some (.slice e) => match P.info? e with
    | some ie => bif Nat.ble 1 ie.size then
        match d with
        | .nils => srcM C g ie.size s fun _ _ _ => K (.int .i64 0) .same
        | .eslice => srcM C g ie.size s fun _ _ _ => K (.int .i64 0) .same
        | .slice p es len _ => match g p.nm with
          | some B => match Nat.beq B.cols.length ie.size with
            | false => copyCells g ie p len B s K
            | true => srcM C g ie.size s fun n cols row =>
                match cols with
                | [] => K (.int .i64 0) .same
                | c0 :: cl => C (Nat.beq p.col 0 && Nat.beq (c0 :: cl).length ie.size && Nat.ble (p.row + len) B.rows)
                  (K (.int .i64 (Nat.min n len)) (.put p.nm { B with cols := List.zipWith (fun c d => Col.lay p.row (Nat.min n len) row d c) B.cols (c0 :: cl), st := B.st + 1 }))
                  none
          | none => none
        | _ => none
      else none
    | none => none
  | _ => none
def bstrM (C : Cn R) (P : Program) (g : Gt) (src dst : TypeId) (x : AV) (K : AV → Option R) : Option R :=
  match P.underlying src, P.underlying dst with
  | some (.slice e), some .string => match P.underlying e with
    | some (.int .u8) => match x with
      | .eslice => K (.str [])
      | .slice q _ n _ => match g q.nm with
        | some D => match D.cols with
          | [.ints .u8 f] => C (Nat.beq q.col 0 && Nat.ble (q.row + n) D.rows) (K (.str ((List.range n).map fun i => UInt8.ofNat (f (i + q.row)).toNat))) none
          | [.vals f] => C (Nat.beq q.col 0 && Nat.ble (q.row + n) D.rows && (List.range n).all (fun i => (f (i + q.row)).isU8)) (K (.str ((List.range n).map fun i => UInt8.ofNat (f (i + q.row)).num.toNat))) none
          | _ => none
        | none => none
      | _ => none
    | _ => none
  | _, _ => none
end

section
variable {Rq : Type} {den : Option Rq → Option R} {C : Cn Rq} (hn : den none = none) (hc : ∀ t x y, den (C t x y) = bif t then den x else den y)
include hn
theorem step_den (g : Gt) (a : Adr) (i e : Nat) (K : Adr → Option Rq) : den (stepE g a i e K) = stepE g a i e fun q => den (K q) := by
  unfold stepE
  split
  · cases Nat.beq e _ with
    | true => cases Nat.beq a.col 0 <;> simp [hn]
    | false => simp
  · exact hn
theorem zero_den (P : Program) (t : TypeId) (K : List AV → Option Rq) : den (zeroL P t K) = zeroL P t fun q => den (K q) := by
  unfold zeroL
  split
  · rfl
  · exact hn
include hc
theorem bound_den (v : Option AV) (y d : Nat) (K : Nat → Option Rq) : den (boundM C v y d K) = boundE v y d fun n => den (K n) := by
  unfold boundM boundE
  split <;> simp only [hc, hn]
theorem bounds_den (len cap : Nat) (lo hi mx : Option AV) (K : Nat → Nat → Nat → Option Rq) : den (boundsM C len cap lo hi mx K) = boundsE len cap lo hi mx fun l h m => den (K l h m) := by
  unfold boundsM boundsE
  rw [bound_den hn hc]
  congr 1
  funext m
  rw [bound_den hn hc]
  congr 1
  funext h
  cases mx.isNone || hi.isSome
  · simp only [cond_false, hn]
  · simp only [cond_true, bound_den hn hc]
theorem slice_den (g : Gt) (t : TypeId) (v : AV) (lo hi mx : Option AV) (K : AV → Option Rq) : den (sliceM C P g t v lo hi mx K) = sliceE P g t v lo hi mx fun v => den (K v) := by
  unfold sliceM sliceE
  split
  · rename_i e p es len cap hu
    simp only [hu]
    split
    · rename_i ie hi
      simp only [hi]
      cases Nat.beq es ie.size with
      | false => simp only [cond_false, hn]
      | true =>
        simp only [cond_true, bounds_den hn hc]
        congr 1
        funext l hh m
        split
        · rfl
        · rw [hc, step_den hn]
          congr 1
          split
          · rfl
          · rw [hc, hn]
    · rename_i hi
      simp only [hi, hn]
  · rename_i e hu
    simp only [hu]
    split
    · rename_i ie hi
      simp only [hi]
      rw [bounds_den hn hc]
    · rename_i hi
      simp only [hi, hn]
  · rename_i n e p hu
    simp only [hu]
    split
    · rename_i ie hi
      simp only [hi]
      split
      · rename_i B hB
        simp only [hB]
        rw [hc, hn, bounds_den hn hc]
        congr 1
        congr 1
        funext l hh m
        split
        · rfl
        · rw [hc, step_den hn]
      · rename_i hB
        simp only [hB, hn]
    · rename_i hi
      simp only [hi, hn]
  · rename_i h1 h2 h3
    rw [hn]
    split
    · rename_i hu; exact absurd rfl (h1 _ _ _ _ _ hu)
    · rename_i hu; exact absurd rfl (h2 _ hu)
    · rename_i hu; exact absurd rfl (h3 _ _ _ hu)
    · rfl
theorem src_den (g : Gt) (size : Nat) (x : AV) (K : Nat → List Col → Nat → Option Rq) : den (srcM C g size x K) = srcE g size x fun n cs r => den (K n cs r) := by
  cases x with
  | str s =>
    simp only [srcM, srcE]
    cases Nat.beq size 1
    · simp only [cond_false, hn]
    · rfl
  | slice q es n cap =>
    simp only [srcM, srcE]
    cases g q.nm with
    | none => exact hn
    | some D => simp only; rw [hc, hn]
  | nils => rfl
  | eslice => rfl
  | _ => exact hn
theorem grow_den (base : Nat) (p : Adr) (B : Blk) (ie : TypeInfo) (len n : Nat) (cols : List Col) (row : Nat) (K : KD Rq) : den (growM C base p B ie len n cols row K) = growD base p B ie len n cols row fun v d => den (K v d) := by
  unfold growM growD
  rw [hc, hn]
theorem append_den (g : Gt) (base : Nat) (st xt : TypeId) (s x : AV) (K : KD Rq) : den (appendM C P g base st xt s x K) = appendD P g base st xt s x fun v d => den (K v d) := by
  unfold appendM appendD
  cases hu : P.underlying st with
  | none => exact hn
  | some u =>
    cases u with
    | slice e =>
      simp only
      cases noInt (P.underlying xt) with
      | false => simp only [cond_false, hn]
      | true =>
        simp only [cond_true]
        cases P.info? e with
        | none => exact hn
        | some ie =>
          simp only
          cases zeroOk ie && Nat.ble 1 ie.bytes && Nat.ble ie.bytes (2 ^ 20) with
          | false => simp only [cond_false, hn]
          | true =>
            simp only [cond_true, src_den hn hc]
            congr 1
            funext n cols row
            cases s with
            | nils => simp only; rw [hc, hc, hn]
            | slice p es len cap =>
              simp only
              rw [hc]
              congr 1
              cases g p.nm with
              | none => exact hn
              | some B =>
                simp only
                rw [hc, hn]
                congr 1
                cases cap with
                | none => simp only; rw [grow_den hn hc]
                | some c => simp only; rw [hc, hc, hn, grow_den hn hc]
            | _ => exact hn
    | _ => exact hn
theorem makeSlice_den (base : Nat) (t : TypeId) (l c : AV) (K : KD Rq) : den (makeSliceM C P base t l c K) = makeSliceD P base t l c fun v d => den (K v d) := by
  unfold makeSliceM makeSliceD
  cases hu : P.underlying t with
  | none => exact hn
  | some u =>
    cases u with
    | slice e =>
      cases l with
      | int k n =>
        cases c with
        | int k' m =>
          simp only
          cases P.info? e with
          | none => exact hn
          | some ie =>
            simp only
            rw [hc, hn, zero_den hn]
            congr 1
            congr 1
            funext z
            cases Nat.beq z.length ie.size && Nat.ble 1 ie.size && z.all AV.lone
            · simp only [cond_false, hn]
            · rfl
        | _ => exact hn
      | _ => exact hn
    | _ => exact hn
omit hc in
theorem copyCells_den (g : Gt) (ie : TypeInfo) (p : Adr) (len : Nat) (B : Blk) (s : AV) (K : KD Rq) : den (copyCells g ie p len B s K) = copyCells g ie p len B s fun v d => den (K v d) := by
  have hb : ∀ (t : Bool) (x : Option Rq), den (bif t then x else none) = bif t then den x else none := fun t x => by cases t <;> simp [hn]
  unfold copyCells
  cases s with
  | slice q es n cap =>
    simp only
    cases g q.nm with
    | none => exact hn
    | some D => simp only; rw [hb]
  | _ => exact hn
theorem copy_den (g : Gt) (dt : TypeId) (d s : AV) (K : KD Rq) : den (copyM C P g dt d s K) = copyD P g dt d s fun v d => den (K v d) := by
  unfold copyM copyD
  cases hu : P.underlying dt with
  | none => exact hn
  | some u =>
    cases u with
    | slice e =>
      simp only
      cases P.info? e with
      | none => exact hn
      | some ie =>
        simp only
        cases Nat.ble 1 ie.size with
        | false => simp only [cond_false, hn]
        | true =>
          simp only [cond_true]
          cases d with
          | nils => simp only; rw [src_den hn hc]
          | eslice => simp only; rw [src_den hn hc]
          | slice p es len cap =>
            simp only
            cases g p.nm with
            | none => exact hn
            | some B =>
              simp only
              cases Nat.beq B.cols.length ie.size with
              | false => simp only; rw [copyCells_den hn]
              | true =>
                simp only
                rw [src_den hn hc]
                congr 1
                funext n cols row
                cases cols with
                | nil => rfl
                | cons c0 cl => simp only; rw [hc, hn]
          | _ => exact hn
    | _ => exact hn
theorem bstr_den (g : Gt) (src dst : TypeId) (x : AV) (K : AV → Option Rq) : den (bstrM C P g src dst x K) = bstrE P g src dst x fun v => den (K v) := by
  have hz : ∀ (t : Bool) (y : Option Rq), den (C t y none) = bif t then den y else none := fun t y => by rw [hc, hn]
  unfold bstrM bstrE
  split
  · rename_i e h1 h2
    simp only [h1, h2]
    split
    · rename_i h3
      simp only [h3]
      cases x with
      | eslice => rfl
      | slice q es n cap =>
        simp only
        cases g q.nm with
        | none => exact hn
        | some D =>
          simp only
          split
          · rename_i h4; simp only [h4]; rw [hz]
          · rename_i h4; simp only [h4]; rw [hz]
          · rename_i h4 h5
            rw [hn]
            split
            · rename_i h6; exact absurd h6 (h4 _)
            · rename_i h6; exact absurd h6 (h5 _)
            · rfl
      | _ => exact hn
    · rename_i h3
      rw [hn]
      split
      · rename_i h4; exact absurd h4 h3
      · rfl
  · rename_i h1
    rw [hn]
    split
    · rename_i h2 h3; exact absurd h3 (h1 _ h2)
    · rfl
end
/-! ### The operations over choices that are told -/
abbrev ArmC (R : Type) := Cn R → Program → (Operand → AV) → Gt → Nat → Oper → KD R → Option R
def sliceCC (t : TypeId) (x : Operand) (lo hi mx : Option Operand) : ArmC R := fun C P e g b o K => match e x with
  | .str _ => plainQ P e o fun v => K v .same
  | _ => sliceM C P g t (e x) (lo.map e) (hi.map e) (mx.map e) fun v => K v .same
def makeSC (t : TypeId) (l c : Operand) : ArmC R := fun C P e g b o K => makeSliceM C P b t (e l) (e c) K
def convSlowC (s d : TypeId) (x : Operand) : ArmC R := fun C P e g b o K => match e x with
  | .slice _ _ _ _ => bstrM C P g s d (e x) fun v => K v .same
  | .eslice => bstrM C P g s d (e x) fun v => K v .same
  | _ => plainQ P e o fun v => K v .same
def convC (s d : TypeId) (x : Operand) : ArmC R := fun C P e g b o K => match e x with
  | .int _ n => match fastConv P s d n with
    | some v => K v .same
    | none => convSlowC s d x C P e g b o K
  | _ => convSlowC s d x C P e g b o K
def appC (c : Go.Call) : ArmC R := fun C P e g b o K => match c.args.toList, c.argTypes[0]?, c.argTypes[1]? with
  | [s, x], some st, some xt => appendM C P g b st xt (e s) (e x) K
  | _, _, _ => none
def copC (c : Go.Call) : ArmC R := fun C P e g b o K => match c.args.toList, c.argTypes[0]? with
  | [d, s], some dt => copyM C P g dt (e d) (e s) K
  | _, _ => none
/-- The one over choices stands for the other. -/
def NatC (dC : (R : Type) → ArmC R) (dD : (R : Type) → ArmD R) : Prop :=
  ∀ {R Rq : Type} (den : Option Rq → Option R) (C : Cn Rq), den none = none → (∀ t x y, den (C t x y) = bif t then den x else den y) → ∀ P e g b o K, den (dC Rq C P e g b o K) = dD R P e g b o fun v d => den (K v d)
theorem plain_den {Rq : Type} {den : Option Rq → Option R} (hn : den none = none) (e : Operand → AV) (o : Oper) (K : AV → Option Rq) : den (plainQ P e o K) = plainQ P e o fun v => den (K v) := by
  unfold plainQ
  split
  · exact hn
  · cases o.op.operands.toList.all fun x => (toV 3 (e x)).isSome with
    | false => simp only [cond_false, hn]
    | true =>
      simp only [cond_true]
      split
      · rfl
      · exact hn
theorem sliceC_nat (t : TypeId) (x : Operand) (lo hi mx : Option Operand) : NatC (fun R => sliceCC t x lo hi mx) (fun R => sliceDQ t x lo hi mx) := by
  intro R Rq den C hn hc P e g b o K
  dsimp only [sliceCC, sliceDQ]
  cases e x with
  | str s => exact plain_den hn _ _ _
  | _ => exact slice_den hn hc _ _ _ _ _ _ _
theorem makeSC_nat (t : TypeId) (l c : Operand) : NatC (fun R => makeSC t l c) (fun R => makeSD t l c) := by
  intro R Rq den C hn hc P e g b o K
  exact makeSlice_den hn hc _ _ _ _ _
theorem convSlowC_nat (s d : TypeId) (x : Operand) : NatC (fun R => convSlowC s d x) (fun R => convSlow s d x) := by
  intro R Rq den C hn hc P e g b o K
  dsimp only [convSlowC, convSlow]
  cases e x with
  | slice q es n c => exact bstr_den hn hc _ _ _ _ _
  | eslice => exact bstr_den hn hc _ _ _ _ _
  | _ => exact plain_den hn _ _ _
theorem convC_nat (s d : TypeId) (x : Operand) : NatC (fun R => convC s d x) (fun R => convD s d x) := by
  intro R Rq den C hn hc P e g b o K
  dsimp only [convC, convD]
  cases e x with
  | int k n =>
    simp only
    cases fastConv P s d n with
    | some v => rfl
    | none => exact convSlowC_nat s d x den C hn hc P e g b o K
  | _ => exact convSlowC_nat s d x den C hn hc P e g b o K
theorem appC_nat (c : Go.Call) : NatC (fun R => appC c) (fun R => appDQ c) := by
  intro R Rq den C hn hc P e g b o K
  dsimp only [appC, appDQ]
  split
  · rename_i h1 h2 h3; simp only [h1, h2, h3]; exact append_den hn hc _ _ _ _ _ _ _
  · rename_i h
    rw [hn]
    split
    · rename_i h1 h2 h3; exact absurd h3 (h _ _ _ _ h1 h2)
    · rfl
theorem copC_nat (c : Go.Call) : NatC (fun R => copC c) (fun R => copDQ c) := by
  intro R Rq den C hn hc P e g b o K
  dsimp only [copC, copDQ]
  split
  · rename_i h1 h2; simp only [h1, h2]; exact copy_den hn hc _ _ _ _ _
  · rename_i h
    rw [hn]
    split
    · rename_i h1 h2; exact absurd h2 (h _ _ _ h1)
    · rfl
end
end Go.Proofs.YtipigcgegmedeaaGreat.Ev
