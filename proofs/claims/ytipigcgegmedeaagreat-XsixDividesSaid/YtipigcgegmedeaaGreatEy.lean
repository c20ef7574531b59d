/- Contracts of calls whose arguments and value hold no address; closed runs with contracts. -/
import Derived.Test.YtipigcgegmedeaaGreatEx
namespace Go.Proofs.YtipigcgegmedeaaGreat.Ev
open Go Go.RowKit
set_option linter.unusedVariables false
set_option linter.unusedSimpArgs false
noncomputable section
variable {R : Type} {P : Program}

/-- Holds no address. -/
def flat : Nat → AV → Bool
  | _, .ptr (some _) => false
  | _, .slice _ _ _ _ => false
  | d + 1, .agg cs => cs.all (flat d)
  | d + 1, .tuple cs => cs.all (flat d)
  | d + 1, .iface _ v => flat d v
  | 0, .agg _ => false
  | 0, .tuple _ => false
  | 0, .iface _ _ => false
  | _, _ => true
theorem flat_any {m m' : Nam} : ∀ (d : Nat) (v : AV) (x : Value), flat d v = true → VR m v x → VR m' v x := by
  intro d
  induction d with
  | zero =>
    intro v x hf h
    cases h with
    | ptr a L e => simp [flat] at hf
    | slice a L es l c c' e1 e2 e3 e4 => simp [flat] at hf
    | agg cs xs hl hx => simp [flat] at hf
    | tuple cs xs hl hx => simp [flat] at hf
    | iface t v x hx => simp [flat] at hf
    | _ => constructor <;> assumption
  | succ d ih =>
    intro v x hf h
    cases h with
    | ptr a L e => simp [flat] at hf
    | slice a L es l c c' e1 e2 e3 e4 => simp [flat] at hf
    | agg cs xs hl hx => simp only [flat, List.all_eq_true] at hf; exact .agg cs xs hl fun i h h' => ih _ _ (hf _ (List.getElem_mem _)) (hx i h h')
    | tuple cs xs hl hx => simp only [flat, List.all_eq_true] at hf; exact .tuple cs xs hl fun i h h' => ih _ _ (hf _ (List.getElem_mem _)) (hx i h h')
    | iface t v x hx => simp only [flat] at hf; exact .iface t v x (ih _ _ hf hx)
    | _ => constructor <;> assumption
theorem CR.flat {m m' : Nam} {d : Nat} {cs : List AV} {xs : List Value} (hf : cs.all (flat d) = true) (h : CR m cs xs) : CR m' cs xs :=
  ⟨h.1, fun i a b => flat_any d _ _ (List.all_eq_true.1 hf _ (List.getElem_mem _)) (h.2 i a b)⟩
/-- A call's value by its arguments alone; the store stays. -/
def pureS (g : List AV → Option AV) : Spec R := fun h base args K =>
  match g args with
  | some v => K v h base
  | none => none
theorem pure_sound {f : FuncId} {s : Spec AV} {g : List AV → Option AV} (hs : SoundSpec P f s)
    (hg : ∀ args v, g args = some v → args.all (flat 3) = true ∧ flat 3 v = true ∧ s [] 0 args (fun v _ _ => some v) = some v) : SoundSpec P f (pureS g : Spec R) := by
  refine ⟨hs.1, .of fun hp b' args => ?_, fun m U h base w args xs K r hU H hc hk' => ?_⟩
  · unfold pureS
    split
    · exact .pure (.refl hp)
    · exact .none
  unfold pureS at hk'
  split at hk'
  · rename_i v hv
    obtain ⟨h1, h2, h3⟩ := hg args v hv
    refine Calls.mono (hs.2.2 (fun _ => none) (fun _ => True) [] 0 w args xs (fun v _ _ => some v) _ (fun _ _ => trivial) (HR.empty w) (hc.flat h1) h3) fun e w' he => ?_
    obtain ⟨v', x, h', b', m', rfl, q1, q0, q2, q3, q4⟩ := he
    cases q1
    have hkeep : ∀ k, k < w.heap.size → w'.heap[k]? = w.heap[k]? := fun k hk => q2.keep k hk fun n B L g => by simp [get, fam] at g
    refine ⟨v, x, h, base, m, rfl, hk', Nat.le_refl _, ⟨m.le_refl, q2.size, fun k hk _ => hkeep k hk, fun n B L g1 g2 _ => ⟨n, B, L, g1, g2, rfl⟩, q2.os, q2.tape, q2.out⟩, ⟨fun n B g => ?_, H.inj, fun n L g => ?_⟩, flat_any 3 _ _ h2 q4⟩
    · exact (H.live n B g).mono m.le_refl fun L hL => hkeep L.b (H.bound n L hL).1
    · have := H.bound n L g
      exact ⟨Nat.lt_of_lt_of_le this.1 q2.size, fun u => this.2 u.1⟩
  · cases hk'

/-! ### Closed runs with contracts -/
def pureQ (g : List AV → Option AV) : SpecQ R := fun q b args K =>
  match g args with
  | some v => K v q b
  | none => none
theorem pure_ref {Rq : Type} {M : Md Rq} {δ : Dn M R} {W : Nat} {r : R} (g : List AV → Option AV) : RefS δ W r (pureQ g) (pureS g) := by
  intro q h b args Kq K H hK hk
  unfold pureQ at hk
  unfold pureS
  split at hk
  · rename_i v hv; exact hK _ _ _ _ H hk
  · rw [δ.n0] at hk; cases hk
/-- Values by arguments, for some functions. -/
abbrev Known := FuncId → Option (List AV → Option AV)
def KQs (T : Known) : SpecsQ R := fun f => match T f with
  | some g => some (pureQ g)
  | none => none
def KSs (T : Known) : Specs R := fun f => match T f with
  | some g => some (pureS g)
  | none => none
theorem known_ref {Rq : Type} {M : Md Rq} {δ : Dn M R} {W : Nat} {r : R} (T : Known) : RefD δ W r (KQs T) (KSs T) := by
  intro f sq h
  unfold KQs at h
  split at h
  · rename_i g hg
    cases h
    exact ⟨pureS g, by simp only [KSs, hg], pure_ref g⟩
  · cases h
def DQS (M : Md R) (P : Program) (N W : Nat) (ok : List FuncId) (S : SpecsQ R) : Nat → SpecsQ R
  | 0 => fun _ => none
  | n + 1 => fun f => match S f with
    | some s => some s
    | none => sel (ok.any (Nat.beq f)) (match P.funcs[f]? with
      | some fn => some (anyQ M P (DQS M P N W ok S n) N W fn)
      | none => none) none
theorem DQS_ref {Rq : Type} {M : Md Rq} {δ : Dn M R} {N W : Nat} {r : R} {ok : List FuncId} {Sq : SpecsQ Rq} {S : Specs R} (hS : RefD δ W r Sq S) (hN : ∀ f, Sq f = none → S f = none) : ∀ n, RefD δ W r (DQS M P N W ok Sq n) (DD P N ok S n) := by
  intro n
  induction n with
  | zero => intro f sq h; cases h
  | succ n ih =>
    intro f sq h
    simp only [DQS] at h
    split at h
    · rename_i s hs
      cases h
      obtain ⟨s', h1, h2⟩ := hS f _ hs
      exact ⟨s', by simp only [DD, h1], h2⟩
    · rename_i hs
      rw [sel_eq] at h
      cases hb : ok.any (Nat.beq f) with
      | false => rw [hb] at h; cases h
      | true =>
        rw [hb] at h
        simp only [cond_true] at h
        split at h
        · rename_i fn hf
          cases h
          exact ⟨_, by simp only [DD, hN f hs, sel_eq, hb, cond_true, hf], any_ref ih N fn⟩
        · cases h
theorem known_none {Rq : Type} (T : Known) (f : FuncId) (h : (KQs T f : Option (SpecQ Rq)) = none) : (KSs T f : Option (Spec R)) = none := by
  unfold KQs at h
  unfold KSs
  split at h
  · cases h
  · rename_i hT; simp only [hT]
def quickS (P : Program) (N W : Nat) (ok : List FuncId) (T : Known) (n : Nat) (f : FuncId) (args : List AV) : Option AV :=
  match DQS mC P N W ok (KQs T) n f with
  | some s => s (mkT none W (Nat.pow 4 W)) 0 args fun v _ _ => some v
  | none => none
theorem quickS_run {N W n f : Nat} {ok : List FuncId} {T : Known} {args : List AV} {v : AV} (hW : 0 < W) (h : quickS P N W ok T n f args = some v) : ∃ s, DD P N ok (KSs T) n f = some s ∧ s [] 0 args (fun v _ _ => some v) = some v := by
  unfold quickS at h
  split at h
  · rename_i sq hs
    obtain ⟨s, h1, h2⟩ := DQS_ref (δ := dC) (r := v) (known_ref T) (known_none T) n f sq hs
    exact ⟨s, h1, h2 _ _ _ _ _ _ (HQ.empty hW) (fun v q h b _ hk => hk) h⟩
  · cases h
/-- As a truth by itself. -/
def quickT (P : Program) (N W : Nat) (ok : List FuncId) (T : Known) (n : Nat) (f : FuncId) (args : List AV) : Bool :=
  match quickS P N W ok T n f args with
  | some (.bool b) => b
  | _ => false
theorem quickT_run {N W n f : Nat} {ok : List FuncId} {T : Known} {args : List AV} (hW : 0 < W) (h : true = quickT P N W ok T n f args) : ∃ s, DD P N ok (KSs T) n f = some s ∧ s [] 0 args (fun v _ _ => some v) = some (.bool true) := by
  unfold quickT at h
  split at h
  · rename_i b e
    subst h
    exact quickS_run hW e
  · cases h

/-! ### A call without arguments that comes to true, as a value that is known -/
def yes : List AV → Option AV := fun args => match args with
  | [] => some (.bool true)
  | _ => none
def oneK (f : FuncId) : Known := fun g => match Nat.beq g f with
  | true => some yes
  | false => none
theorem yes_sound {N W n f : Nat} {ok : List FuncId} (hok : okAll P ok = true) (hW : 0 < W) (h : true = quickB P N W ok n f) : Sound P (KSs (oneK f) : Specs R) := by
  intro g s hs
  unfold KSs oneK at hs
  split at hs
  · rename_i k hk
    split at hk
    · rename_i hb
      cases hk
      have := Nat.eq_of_beq_eq_true hb
      subst this
      cases hs
      unfold quickB at h
      split at h
      · rename_i b e
        subst h
        unfold quick at e
        split at e
        · rename_i sq hq
          obtain ⟨s, h1, h2⟩ := DQ_ref (δ := dC) (r := AV.bool true) n g sq hq
          refine .inl (pure_sound (DD_spec hok none_sound rfl h1) fun args v hv => ?_)
          unfold yes at hv
          split at hv
          · cases hv
            exact ⟨rfl, rfl, h2 _ _ _ _ _ _ (HQ.empty hW) (fun v q h b _ hk => hk) e⟩
          · cases hv
        · cases e
      · cases h
    · cases hk
  · cases hs
/-- One more function whose value is known. -/
def addK (f : FuncId) (g : List AV → Option AV) (T : Known) : Known := fun n => match Nat.beq n f with
  | true => some g
  | false => T n
theorem addK_sound {f : FuncId} {g : List AV → Option AV} {T : Known} (hg : SoundSpec P f (pureS g : Spec R) ∨ SoundX P f (pureS g : Spec R)) (hT : Sound P (KSs T : Specs R)) : Sound P (KSs (addK f g T) : Specs R) := by
  intro n s hs
  unfold KSs addK at hs
  cases hb : Nat.beq n f with
  | true =>
    rw [hb] at hs
    cases hs
    have := Nat.eq_of_beq_eq_true hb
    subst this
    exact hg
  | false =>
    rw [hb] at hs
    exact hT n s hs
/-- A function of the library without a body. -/
theorem ext_sound {f : FuncId} {g : List AV → Option AV} {fn : Func} {e : Array Value → Sem Value} (hf : P.funcs[f]? = some fn) (h1 : (fn.name == "runtime.NumGoroutine") = false) (h2 : fn.body.isNone = true) (h3 : Extern.findNext fn = none) (h4 : Extern.find fn = some e)
    (hg : ∀ m args (xs : Array Value) v w, g args = some v → CR m args xs.toList → ∃ y, VR m v y ∧ (e xs).run P w = .ok y w) : SoundX P f (pureS g : Spec R) := by
  refine ⟨.of fun hp b' args => ?_, fun m h base w args xs K r hc hk => ?_⟩
  · unfold pureS
    split
    · exact .pure (.refl hp)
    · exact .none
  · unfold pureS at hk
    split at hk
    · rename_i v hv
      obtain ⟨y, y1, y2⟩ := hg m args xs v w hv hc
      refine ⟨v, y, hk, y1, ?_⟩
      simp only [callFunc, Sem.run_bind, run_program, Result.andThen_ok, hf, h1, h2, h3, h4, Bool.false_eq_true, if_false, if_true, run_mark, Sem.run_pure, y2]
    · cases hk
/-- What came in as a struct: its cells are not known. -/
theorem cell_one {w : World} {r : Reach} {base : Nat} {t : TypeId} {v : Value} (h : Cell.okWide P w r base t v) : v.oneCell' = true := by
  cases v <;> first
    | rfl
    | (exfalso
       unfold Cell.okWide Cell.ok at h
       split at h <;> first
         | (rename_i e; cases e; done)
         | (rename_i e _; cases e; done)
         | (split at h <;> first | exact h | (rename_i e; cases e; done) | (rename_i e _; cases e; done)))
theorem struct_cells {m : Nam} {w : World} {r : Reach} {base : Nat} {t : TypeId} {v : Value} {fs : Array Field} {n : Nat} (hu : P.underlying t = some (.struct fs)) (hn : P.cellsOf t = n) (h : Value.okWide P w r base t v) : VR m (.agg (List.replicate n .cell)) v := by
  unfold Value.okWide at h
  rw [hu] at h
  obtain ⟨cs, rfl, h1, ts, _, _, h2⟩ := h
  refine .agg _ cs.toList (by simp [← hn, h1]) fun i a b => ?_
  obtain ⟨u, _, h3⟩ := h2 i cs[i] (by simp)
  simpa using VR.cell (m := m) _ (cell_one h3)

/-! ### Runs with data not known: every choice is told, and an oracle follows one way -/
inductive Way3 where
  | nil
  | val (v : AV)
  | br (t : Bool) (x y : Way3)
def Way3.ofO (x : Option Way3) : Way3 :=
  match x with
  | some x => x
  | none => .nil
def Way3.den : Way3 → Option AV
  | .nil => none
  | .val v => some v
  | .br t x y => bif t then x.den else y.den
def mS : Md Way3 := ⟨fun t x y => some (.br t (Way3.ofO x) (Way3.ofO y)), true⟩
theorem ofO_den (x : Option Way3) : (Way3.ofO x).den = match x with
    | some o => o.den
    | none => none := by cases x <;> rfl
def dS : Dn mS AV := ⟨fun x => (Way3.ofO x).den, rfl, fun t x y => rfl⟩
/-- What must be so for the oracle to be right (the last choice first), and the value. -/
def flw : List Bool → Way3 → List Bool → Option (AV × List Bool)
  | _, .nil, _ => none
  | _, .val v, acc => some (v, acc)
  | true :: os, .br t x _, acc => flw os x (t :: acc)
  | false :: os, .br t _ y, acc => flw os y ((bif t then false else true) :: acc)
  | [], .br _ _ _, _ => none
theorem flw_den : ∀ (os : List Bool) (X : Way3) (acc : List Bool) (v : AV) (l : List Bool), flw os X acc = some (v, l) → (∀ t ∈ l, t = true) → X.den = some v ∧ ∀ t ∈ acc, t = true := by
  intro os
  induction os with
  | nil =>
    intro X acc v l h hl
    cases X with
    | nil => cases h
    | val w => simp only [flw, Option.some.injEq, Prod.mk.injEq] at h; obtain ⟨h1, h2⟩ := h; subst h1; subst h2; exact ⟨rfl, hl⟩
    | br t x y => cases h
  | cons o os ih =>
    intro X acc v l h hl
    cases X with
    | nil => cases o <;> cases h
    | val w => cases o <;> (simp only [flw, Option.some.injEq, Prod.mk.injEq] at h; obtain ⟨h1, h2⟩ := h; subst h1; subst h2; exact ⟨rfl, hl⟩)
    | br t x y =>
      cases o with
      | true =>
        obtain ⟨h1, h2⟩ := ih x (t :: acc) v l h hl
        have : t = true := h2 t (by simp)
        subst this
        exact ⟨h1, fun u hu => h2 u (by simp [hu])⟩
      | false =>
        obtain ⟨h1, h2⟩ := ih y ((bif t then false else true) :: acc) v l h hl
        have ht := h2 (bif t then false else true) (by simp)
        cases t with
        | true => cases ht
        | false => exact ⟨h1, fun u hu => h2 u (by simp [hu])⟩
def quickO (P : Program) (N W : Nat) (ok : List FuncId) (T : Known) (n : Nat) (f : FuncId) (args : List AV) : Way3 :=
  match DQS mS P N W ok (KQs T) n f with
  | some s => Way3.ofO (s (mkT none W (Nat.pow 4 W)) 0 args fun v _ _ => some (.val v))
  | none => .nil
theorem quickO_run {N W n f : Nat} {ok : List FuncId} {T : Known} {args : List AV} {v : AV} {os l : List Bool} (hW : 0 < W) (h : flw os (quickO P N W ok T n f args) [] = some (v, l)) (hl : ∀ t ∈ l, t = true) : ∃ s, DD P N ok (KSs T) n f = some s ∧ s [] 0 args (fun v _ _ => some v) = some v := by
  have hd := (flw_den _ _ _ _ _ h hl).1
  unfold quickO at hd
  split at hd
  · rename_i sq hs
    obtain ⟨s, h1, h2⟩ := DQS_ref (δ := dS) (r := v) (known_ref T) (known_none T) n f sq hs
    exact ⟨s, h1, h2 _ _ _ _ (fun v _ _ => some (.val v)) _ (HQ.empty hW) (fun v q h b _ hk => hk) hd⟩
  · cases hd
/-- The same; (k, o): k choices tell themselves, the next one is o. -/
def flwC (X : Way3) : List (Nat × Bool) → List Bool → Option (AV × List Bool) :=
  Way3.rec (motive := fun _ => List (Nat × Bool) → List Bool → Option (AV × List Bool)) (fun _ _ => none) (fun v _ acc => some (v, acc))
    (fun t _ _ ihx ihy os acc => match os with
      | [] => (match t with
        | true => ihx [] acc
        | false => ihy [] acc)
      | (k, o) :: os => match k with
        | 0 => (match o with
          | true => ihx os (t :: acc)
          | false => ihy os ((bif t then false else true) :: acc))
        | k + 1 => (match t with
          | true => ihx ((k, o) :: os) acc
          | false => ihy ((k, o) :: os) acc)) X
theorem flwC_den : ∀ (X : Way3) (os : List (Nat × Bool)) (acc : List Bool) (v : AV) (l : List Bool), flwC X os acc = some (v, l) → (∀ t ∈ l, t = true) → X.den = some v ∧ ∀ t ∈ acc, t = true := by
  intro X
  induction X with
  | nil => intro os acc v l h hl; cases h
  | val w =>
    intro os acc v l h hl
    have h : some (w, acc) = some (v, l) := h
    simp only [Option.some.injEq, Prod.mk.injEq] at h; obtain ⟨h1, h2⟩ := h; subst h1; subst h2; exact ⟨rfl, hl⟩
  | br t x y ihx ihy =>
    intro os acc v l h hl
    cases os with
    | nil =>
      cases t with
      | true => exact ihx [] acc v l h hl
      | false => exact ihy [] acc v l h hl
    | cons p os =>
      obtain ⟨k, o⟩ := p
      cases k with
      | zero =>
        cases o with
        | true =>
          obtain ⟨h1, h2⟩ := ihx os (t :: acc) v l h hl
          have : t = true := h2 t (by simp)
          subst this
          exact ⟨h1, fun u hu => h2 u (by simp [hu])⟩
        | false =>
          obtain ⟨h1, h2⟩ := ihy os ((bif t then false else true) :: acc) v l h hl
          have ht := h2 (bif t then false else true) (by simp)
          cases t with
          | true => cases ht
          | false => exact ⟨h1, fun u hu => h2 u (by simp [hu])⟩
      | succ k =>
        cases t with
        | true => exact ihx ((k, o) :: os) acc v l h hl
        | false => exact ihy ((k, o) :: os) acc v l h hl
theorem quickC_run {N W n f : Nat} {ok : List FuncId} {T : Known} {args : List AV} {v : AV} {os : List (Nat × Bool)} {l : List Bool} (hW : 0 < W) (h : flwC (quickO P N W ok T n f args) os [] = some (v, l)) (hl : ∀ t ∈ l, t = true) : ∃ s, DD P N ok (KSs T) n f = some s ∧ s [] 0 args (fun v _ _ => some v) = some v := by
  have hd := (flwC_den _ _ _ _ _ h hl).1
  unfold quickO at hd
  split at hd
  · rename_i sq hs
    obtain ⟨s, h1, h2⟩ := DQS_ref (δ := dS) (r := v) (known_ref T) (known_none T) n f sq hs
    exact ⟨s, h1, h2 _ _ _ _ (fun v _ _ => some (.val v)) _ (HQ.empty hW) (fun v q h b _ hk => hk) hd⟩
  · cases hd
/-- The choices of a closed run, as a number: 1, then a digit for each. -/
def autoN (X : Way3) : Nat → Nat := Way3.rec (motive := fun _ => Nat → Nat) (fun _ => 0) (fun _ n => n) (fun t _ _ ihx ihy n => match t with
  | true => ihx (Nat.succ (Nat.mul 2 n))
  | false => ihy (Nat.mul 2 n)) X
/-- The choices of a closed run. -/
def auto : Nat → Way3 → List Bool
  | n + 1, .br t x y => match t with
    | true => true :: auto n x
    | false => false :: auto n y
  | _, _ => []
end
end Go.Proofs.YtipigcgegmedeaaGreat.Ev
