/- Functions with a deferred call, and with results in variables of their own. -/
import Derived.Test.YtipigcgegmedeaaGreatEq
import Derived.Defers
namespace Go.Proofs.YtipigcgegmedeaaGreat.Ev
open Go
set_option linter.unusedVariables false
set_option linter.unusedSimpArgs false
noncomputable section
variable {R : Type} {P : Program} {r : R} {m : Nam} {w : World} {o : Oper} {a : Act} {ts : List AV} {ds : List Deferred}

abbrev Pd := Option (FuncId × List AV)
/-- A region that makes a closure and defers its call: the slot, the function, what is captured, the second slot. -/
def defOf (l : List Oper) : Option (Nat × FuncId × List Operand × Option Tmp) :=
  match l with
  | [o1, o2] => match o1.op, o1.guard, o1.dst, o2.op, o2.guard with
    | .makeFunc (.func f) first caps, none, some d, .defer c, none => match c.callee with
      | .value (.tmp d') => bif Nat.beq d d' && first.isEmpty && c.args.isEmpty then some (d, f, caps.toList, o2.dst) else none
      | _ => none
    | _, _, _, _, _ => none
  | _ => none
theorem defOf_spec {l : List Oper} {d : Nat} {f : FuncId} {cs : List Operand} {d2 : Option Tmp} (h : defOf l = some (d, f, cs, d2)) :
    ∃ (o1 o2 : Oper) (first caps : Array Operand) (c : Go.Call), l = [o1, o2] ∧ o1.op = .makeFunc (.func f) first caps ∧ o1.guard = none ∧ o1.dst = some d ∧ o2.op = .defer c ∧ o2.guard = none ∧ c.callee = .value (.tmp d) ∧ first = #[] ∧ c.args = #[] ∧ cs = caps.toList ∧ d2 = o2.dst := by
  unfold defOf at h
  split at h
  · rename_i o1 o2
    split at h
    · rename_i f' first caps d' c h1 h2 h3 h4 h5
      split at h
      · rename_i d'' hc
        cases hb : (Nat.beq d' d'' && first.isEmpty && c.args.isEmpty) with
        | false => rw [hb] at h; cases h
        | true =>
          rw [hb] at h
          cases h
          simp only [Bool.and_eq_true, Array.isEmpty_iff] at hb
          obtain ⟨⟨b1, b2⟩, b3⟩ := hb
          have := Nat.eq_of_beq_eq_true b1
          subst this
          exact ⟨o1, o2, first, caps, c, rfl, h1, h2, h3, h4, h5, hc, b2, b3, rfl, rfl⟩
      · cases h
    · cases h
  · cases h
/-- Code whose first row may defer one call. -/
def evTop (P : Program) (D : Specs R) (n : Nat) : Code → List AV → Heap → Nat → (Pd → KX R) → Option R
  | .seq x y, ts, h, b, K => evTop P D n x ts h b fun p e ts h b => match e with
    | .normal => (match p with
      | none => evTop P D n y ts h b K
      | some q => ev P D n [] y ts h b (K (some q)))
    | .exit i => K p (.exit i) ts h b
    | .ret => K p .ret ts h b
  | .region id ops draw, ts, h, b, K => match draw, defOf ops.toList with
    | false, some (d, f, caps, d2) => bif Nat.blt d ts.length then K (some (f, caps.map (evA ts))) .normal (putD (putD ts (some d) .undef) d2 .undef) h b else none
    | _, _ => ev P D n [] (.region id ops draw) ts h b (K none)
  | c, ts, h, b, K => ev P D n [] c ts h b (K none)
def DRel (m : Nam) (p : Pd) (l : List Deferred) : Prop :=
  match p with
  | none => l = []
  | some (f, cs) => ∃ xs : Array Value, l = [{ target := .fn (.func f) xs, args := #[] }] ∧ CR m cs xs.toList
theorem DRel.mono {m m' : Nam} (hm : m.le m') {p : Pd} {l : List Deferred} (h : DRel m p l) : DRel m' p l := by
  cases p with
  | none => exact h
  | some q => obtain ⟨xs, h1, h2⟩ := h; exact ⟨xs, h1, h2.mono hm⟩
theorem caps_real (T : TR m ts a) (caps : Array Operand) : CR m (caps.toList.map (evA ts)) (caps.map a.eval).toList := by
  refine CR.of (by simp) fun i v hv => ?_
  rw [List.getElem?_map] at hv
  cases hq : caps.toList[i]? with
  | none => rw [hq] at hv; cases hv
  | some x =>
    rw [hq] at hv
    simp only [Option.map_some, Option.some.injEq] at hv
    subst hv
    exact ⟨a.eval x, by simp [Array.toList_map, List.getElem?_map, hq], T.eval x⟩
theorem defer_wp {id : Nat} {ops : Array Oper} {d : Nat} {f : FuncId} {cs : List Operand} {d2 : Option Tmp} (hd : defOf ops.toList = some (d, f, cs, d2)) (T : TR m ts a) (hl : d < ts.length) {Q : Exit → Act → World → Prop}
    (hq : ∀ a', TR m (putD (putD ts (some d) .undef) d2 .undef) a' → (∃ xs : Array Value, a'.defers = { target := .fn (.func f) xs, args := #[] } :: a.defers ∧ CR m (cs.map (evA ts)) xs.toList) → Q .normal a' w) : (Code.region id ops false).wp P Q a w := by
  obtain ⟨o1, o2, first, caps, c, e1, e2, e3, e4, e5, e6, e7, e8, e9, e10, e11⟩ := defOf_spec hd
  refine wp_region_list ?_
  rw [e1]
  have w1 : ∀ y, Region.wanted o1 y = true := fun y => by simp [Region.wanted, e3]
  have w2 : ∀ y, Region.wanted o2 y = true := fun y => by simp [Region.wanted, e6]
  simp only [wpList, w1, w2, if_true]
  refine .inl ?_
  have r1 : (execOp a.eval o1).run P w = .ok (.value (.func (.func f) #[] (caps.map a.eval))) w := by
    simp [execOp, e2, e8, Instr.makeFunc]
  unfold Oper.wp
  rw [r1]
  show _ ∨ _
  refine .inl ?_
  have hev : (a.put o1.dst (.func (.func f) #[] (caps.map a.eval))).eval (.tmp d) = .func (.func f) #[] (caps.map a.eval) := by
    have hlt : d < a.tmps.size := T.1 ▸ hl
    simp [e4, Act.put, Act.eval, Array.getD, hlt]
  have r2 : (execOp (a.put o1.dst (.func (.func f) #[] (caps.map a.eval))).eval o2).run P w = .ok (.defer { target := .fn (.func f) (caps.map a.eval), args := #[] }) w := by
    simp only [execOp, e5, resolve, e7, e9, hev, Deferred.ofValue, Sem.run_bind, Sem.run_pure, Result.andThen_ok]
    simp
  rw [r2]
  show Q .normal _ w
  have T1 : TR m (putD ts (some d) .undef) (a.put o1.dst (.func (.func f) #[] (caps.map a.eval))) := by rw [e4]; exact T.put (.undef _) (some d)
  refine hq _ ?_ ⟨caps.map a.eval, ?_, ?_⟩
  · rw [e11]
    have : TR m (putD ts (some d) .undef) { a.put o1.dst (.func (.func f) #[] (caps.map a.eval)) with defers := { target := .fn (.func f) (caps.map a.eval), args := #[] } :: (a.put o1.dst (.func (.func f) #[] (caps.map a.eval))).defers } := T1
    exact this.put (.undef _) o2.dst
  · rw [e4]; cases o2.dst <;> rfl
  · rw [e10]; exact caps_real T caps
theorem top_wp {U : Nat → Prop} {b0 : Nat} (hU : ∀ f, b0 ≤ f → U f) {D : Specs R} (hD : Sound P D) (n : Nat) : ∀ (c : Code) (ts : List AV) (h : Heap) (b : Nat) (K : Pd → KX R) (m : Nam) (w : World) (a : Act) (Q : Exit → Act → World → Prop), b0 ≤ b → HR m (above U b0 b) (get h) w → TR m ts a → a.defers = [] → evTop P D n c ts h b K = some r →
    (∀ p e ts' h' b' a' m' w', K p e ts' h' b' = some r → b0 ≤ b' → Tr m (get h) w m' (get h') w' → HR m' (above U b0 b') (get h') w' → TR m' ts' a' → DRel m' p a'.defers → Q e.real a' w') → c.wp P Q a w := by
  have other : ∀ (c : Code) (ts : List AV) (h : Heap) (b : Nat) (K : Pd → KX R) (m : Nam) (w : World) (a : Act) (Q : Exit → Act → World → Prop), b0 ≤ b → HR m (above U b0 b) (get h) w → TR m ts a → a.defers = [] → ev P D n [] c ts h b (K none) = some r →
    (∀ p e ts' h' b' a' m' w', K p e ts' h' b' = some r → b0 ≤ b' → Tr m (get h) w m' (get h') w' → HR m' (above U b0 b') (get h') w' → TR m' ts' a' → DRel m' p a'.defers → Q e.real a' w') → c.wp P Q a w :=
    fun c ts h b K m w a Q hb H T hd hk hq => ev_wp hU hD n [] c ts h b (K none) m w a Q hb H T hd hk fun e ts' h' b' a' m' w' q1 q0 q2 q3 q4 q5 => hq none e ts' h' b' a' m' w' q1 q0 q2 q3 q4 q5
  intro c
  induction c with
  | seq x y ihx ihy =>
    intro ts h b K m w a Q hb H T hd hk hq
    simp only [evTop] at hk
    refine wp_seq (ihx ts h b _ m w a _ hb H T hd hk fun p e ts' h' b' a' m' w' q1 q0 q2 q3 q4 q5 => ?_)
    cases e with
    | normal =>
      cases p with
      | none => exact ihy ts' h' b' K m' w' a' Q q0 q3 q4 q5 q1 fun p2 e2 ts2 h2 b2 a2 m2 w2 p1 p0 p3 p4 p5 p6 => hq p2 e2 ts2 h2 b2 a2 m2 w2 p1 p0 (q2.trans p3) p4 p5 p6
      | some q => exact ev_wp hU hD n [] y ts' h' b' (K (some q)) m' w' a' Q q0 q3 q4 rfl q1 fun e2 ts2 h2 b2 a2 m2 w2 p1 p0 p3 p4 p5 p6 => hq (some q) e2 ts2 h2 b2 a2 m2 w2 p1 p0 (q2.trans p3) p4 p5 (by rw [p6]; exact DRel.mono p3.ext q5)
    | exit i => exact hq p (.exit i) ts' h' b' a' m' w' q1 q0 q2 q3 q4 q5
    | ret => exact hq p .ret ts' h' b' a' m' w' q1 q0 q2 q3 q4 q5
  | region id ops draw =>
    intro ts h b K m w a Q hb H T hd hk hq
    simp only [evTop] at hk
    split at hk
    · rename_i d f caps d2 hdef
      cases hl : Nat.blt d ts.length with
      | false => rw [hl] at hk; cases hk
      | true =>
        rw [hl] at hk
        simp only [cond_true] at hk
        refine defer_wp hdef T (by simpa using hl) fun a' T' hx => ?_
        obtain ⟨xs, x1, x2⟩ := hx
        rw [hd] at x1
        exact hq _ .normal _ h b a' m w hk hb (Tr.refl m (get h) w) H T' ⟨xs, x1, x2⟩
    · exact other _ _ _ _ _ _ _ _ _ hb H T hd hk hq
  | _ => intro ts h b K m w a Q hb H T hd hk hq; simp only [evTop] at hk; exact other _ _ _ _ _ _ _ _ _ hb H T hd hk hq

/-! ### Results in variables of their own -/
def resC (P : Program) (g : Gt) : List ResultVar → List AV → Option (List AV)
  | [], _ => some []
  | .tmp t :: l, ts => match resC P g l ts with
    | some vs => some (nth ts t :: vs)
    | none => none
  | .cell q t :: l, ts => match nth ts q with
    | .ptr (some p) => match loadE P g t p some with
      | some v => match resC P g l ts with
        | some vs => some (v :: vs)
        | none => none
      | none => none
    | _ => none
theorem resC_real {U : Nat → Prop} {g : Gt} (H : HR m U g w) (T : TR m ts a) : ∀ (l : List ResultVar) (vs : List AV), resC P g l ts = some vs →
    ∃ xs : List Value, (l.mapM (m := Sem) fun | .tmp t => pure (a.tmps.getD t undef) | .cell q t => do loadVar t (← asAddr (a.tmps.getD q undef))).run P w = .ok xs w ∧ CR m vs xs := by
  intro l
  induction l with
  | nil => intro vs h; simp only [resC, Option.some.injEq] at h; subst h; exact ⟨[], by simp, rfl, fun i h => by simp at h⟩
  | cons x l ih =>
    intro vs h
    have cons : ∀ {v : AV} {y : Value} {vs' : List AV} {xs : List Value}, VR m v y → CR m vs' xs → CR m (v :: vs') (y :: xs) := fun {v y vs' xs} h1 h2 => CR.of (by simp [h2.1]) fun i u hu => by
      cases i with
      | zero => simp at hu; subst hu; exact ⟨_, rfl, h1⟩
      | succ i => simpa using h2.at (by simpa using hu)
    cases x with
    | tmp t =>
      simp only [resC] at h
      split at h
      · rename_i vs' hvs
        cases h
        obtain ⟨xs, x1, x2⟩ := ih vs' hvs
        exact ⟨a.tmps.getD t undef :: xs, by simp only [List.mapM_cons, Sem.run_bind, Sem.run_pure, Result.andThen_ok, x1], cons (T.eval (.tmp t)) x2⟩
      · cases h
    | cell q t =>
      simp only [resC] at h
      split at h
      · rename_i p hp
        split at h
        · rename_i v hv
          split at h
          · rename_i vs' hvs
            cases h
            obtain ⟨xs, x1, x2⟩ := ih vs' hvs
            have hT : VR m (.ptr (some p)) (a.tmps.getD q undef) := by have := T.eval (.tmp q); rw [show evA ts (.tmp q) = nth ts q from rfl, hp] at this; exact this
            obtain ⟨v', y, q1, q2, q3⟩ := load_sound H hT hv
            cases q1
            refine ⟨y :: xs, ?_, cons q2 x2⟩
            obtain ⟨L, _, ex⟩ := ptr_real hT
            have hl : (do loadVar t (← asAddr (a.tmps.getD q undef)) : Sem Value).run P w = .ok y w := by
              rw [ex] at q3 ⊢
              simpa [Instr.loadAt, Instr.sureAddr, asAddr] using q3
            have hl2 := hl
            simp only [Sem.run_bind] at hl2
            simp only [List.mapM_cons, Sem.run_bind, hl2, Sem.run_pure, Result.andThen_ok, x1]
          · cases h
        · cases h
      · cases h
def runDef (P : Program) (D : Specs R) (n : Nat) (p : Pd) (h : Heap) (b : Nat) (k : Heap → Nat → Option R) : Option R :=
  match p with
  | none => k h b
  | some (f, cs) => match P.funcs[f]? with
    | some fd => bif !fd.body.isNone && !(fd.name == "runtime.NumGoroutine") then evFn P D n [] fd h b cs (fun _ h' b' => k h' b') else none
    | none => none
/-- A function by its own tree, with a deferred call or results in variables. -/
def evFnT (P : Program) (D : Specs R) (n : Nat) (fn : Func) : Spec R := fun h base args K =>
  match fn.body with
  | some c => evTop P D n c (args ++ fills (fn.ntmps - args.length)) h base fun p e ts h' b' => match e with
    | .exit _ => none
    | _ => runDef P D n p h' b' fun h2 b2 => match resC P (get h2) fn.results.toList ts with
      | some vs => K (one vs) h2 b2
      | none => none
  | none => none
theorem fnT_wp {D : Specs R} (hD : Sound P D) (n : Nat) {fn : Func} {c : Code} (hbody : fn.body = some c) {U : Nat → Prop} {h : Heap} {base : Nat} {args : List AV} {xs : Array Value} {K : Kont R} (hU : ∀ f, base ≤ f → U f) (H : HR m U (get h) w) (hc : CR m args xs.toList) (hk : evFnT P D n fn h base args K = some r) :
    c.wp P (bodyPostD P fn (Came U base m h w K r)) { tmps := xs ++ Array.replicate (fn.ntmps - xs.size) undef, defers := [] } w := by
  unfold evFnT at hk
  rw [hbody] at hk
  refine top_wp hU hD n c (args ++ fills (fn.ntmps - args.length)) h base _ m w _ _ (Nat.le_refl base) (H.anti fun f hf => hf.1) (args_tr hc fn.ntmps []) rfl hk ?_
  intro p e ts' h' b' a' m' w' q1 q0 q2 q3 q4 q5
  have fin : ∀ (h2 : Heap) (b2 : Nat) (m2 : Nam) (w2 : World), base ≤ b2 → Tr m' (get h') w' m2 (get h2) w2 → HR m2 (above U base b2) (get h2) w2 → (match resC P (get h2) fn.results.toList ts' with | some vs => K (one vs) h2 b2 | none => none) = some r → ∃ v, (results fn a'.tmps).run P w2 = .ok v w2 ∧ Came U base m h w K r (.returned v) w2 := by
    intro h2 b2 m2 w2 p0 p2 p3 p1
    split at p1
    · rename_i vs hvs
      obtain ⟨ys, y1, y2⟩ := resC_real (P := P) p3 (q4.mono p2.ext) fn.results.toList vs hvs
      have hmap : (fn.results.mapM (m := Sem) fun | .tmp t => pure (a'.tmps.getD t undef) | .cell q t => do loadVar t (← asAddr (a'.tmps.getD q undef))).run P w2 = .ok ys.toArray w2 := by
        rw [Array.mapM_eq_mapM_toList, Sem.run_map, y1]
        rfl
      refine ⟨(if hh : ys.toArray.size = 1 then ys.toArray[0] else .tuple ys.toArray), ?_, one vs, _, h2, b2, m2, rfl, p1, p0, q2.trans p2, p3, res_one y2⟩
      simp only [results, Sem.run_bind]
      exact (congrArg (fun z => Result.andThen z _) hmap).trans rfl
    · cases p1
  have main : runDef P D n p h' b' (fun h2 b2 => match resC P (get h2) fn.results.toList ts' with | some vs => K (one vs) h2 b2 | none => none) = some r → Leaves P fn a'.tmps (Came U base m h w K r) a'.defers .returning w' := by
    intro q1
    cases p with
    | none =>
      have hd : a'.defers = [] := q5
      rw [hd]
      exact fin h' b' m' w' q0 (Tr.refl m' (get h') w') q3 q1
    | some q =>
      obtain ⟨f, cs⟩ := q
      obtain ⟨zs, z1, z2⟩ := q5
      rw [z1]
      simp only [runDef] at q1
      split at q1
      · rename_i fd hf
        cases hb : (!fd.body.isNone && !(fd.name == "runtime.NumGoroutine")) with
        | false => rw [hb] at q1; cases q1
        | true =>
          rw [hb] at q1
          simp only [cond_true] at q1
          simp only [Bool.and_eq_true, Bool.not_eq_true'] at hb
          obtain ⟨hb1, hb2⟩ := hb
          cases hbd : fd.body with
          | none => rw [hbd] at hb1; cases hb1
          | some cd =>
            refine ⟨by simp, .func f, zs, f, zs, rfl, ?_, ?_⟩
            · simp only [invoke, callFunc, Sem.run_bind, run_program, hf, hb1, hb2, Result.andThen_ok, Bool.false_eq_true, if_false]
              simp
            · have hwp := fn_wp hD n [] hbd (U := above U base b') (fun f hf => ⟨hU f (Nat.le_trans q0 hf), .inr hf⟩) q3 z2 q1
              refine (callsD_of_wp hf hbd hwp).mono fun e u' w2 he => ?_
              obtain ⟨rfl, v, x, h2, b2, m2, rfl, p1, p0, p2, p3, p4⟩ := he
              refine fin h2 b2 m2 w2 (Nat.le_trans q0 p0) p2 (p3.anti fun f hf => ⟨⟨hf.1, ?_⟩, ?_⟩) p1
              · rcases hf.2 with h | h
                · exact .inl h
                · exact .inr (Nat.le_trans p0 h)
              · rcases hf.2 with h | h
                · exact .inl (Nat.lt_of_lt_of_le h q0)
                · exact .inr h
      · cases q1
  cases e with
  | exit i => cases q1
  | normal => exact main q1
  | ret => exact main q1

/-! ### Goes on in one way alone -/
abbrev K6 (h : Heap) (x : Pd × Ex × List AV × Heap × Nat) : Prop := Keeps h x.2.2.2.1
def cur2 (K : (Pd × Ex × List AV × Heap × Nat) → Option R) : Pd → KX R := fun p e ts h b => K (p, e, ts, h, b)
theorem top_one {D : Specs R} (hD : Way D) (n : Nat) : ∀ (c : Code) (ts : List AV) (h : Heap) (b : Nat), One (K6 h) fun K => evTop P D n c ts h b (cur2 K) := by
  have other : ∀ (c : Code) (ts : List AV) (h : Heap) (b : Nat), One (K6 h) fun K : (Pd × Ex × List AV × Heap × Nat) → Option R => ev P D n [] c ts h b (cur2 K none) := fun c ts h b =>
    (ev_one hD n [] c ts h b).comp (Ψ := K6 h) (G := fun x K => K (none, x.1, x.2.1, x.2.2.1, x.2.2.2)) fun x hx => .pure (by exact hx)
  intro c
  induction c with
  | seq x y ihx ihy =>
    intro ts h b
    simp only [evTop]
    refine (ihx ts h b).comp (Ψ := K6 h) (G := fun z K => match z.2.1 with
      | .normal => (match z.1 with
        | none => evTop P D n y z.2.2.1 z.2.2.2.1 z.2.2.2.2 (cur2 K)
        | some q => ev P D n [] y z.2.2.1 z.2.2.2.1 z.2.2.2.2 (cur2 K (some q)))
      | .exit i => cur2 K z.1 (.exit i) z.2.2.1 z.2.2.2.1 z.2.2.2.2
      | .ret => cur2 K z.1 .ret z.2.2.1 z.2.2.2.1 z.2.2.2.2) fun z hz => ?_
    obtain ⟨p, e, ts, h, b⟩ := z
    cases e with
    | normal =>
      cases p with
      | none => exact (ihy _ _ _).mono fun a ha => hz.trans ha
      | some q => exact ((ev_one hD n [] y ts h b).comp (Ψ := K6 h) (G := fun x K => K (some q, x.1, x.2.1, x.2.2.1, x.2.2.2)) fun x hx => .pure (by exact hx)).mono fun a ha => hz.trans ha
    | exit i => exact .pure (by exact hz)
    | ret => exact .pure (by exact hz)
  | region id ops draw =>
    intro ts h b
    simp only [evTop]
    split
    · exact .cond (fun _ => .pure (by exact .refl h)) fun _ => .none
    · exact other _ _ _ _
  | _ => intro ts h b; simp only [evTop]; exact other _ _ _ _
theorem def_one {D : Specs R} (hD : Way D) (n : Nat) (p : Pd) (h : Heap) (b : Nat) : One (fun x : Heap × Nat => Keeps h x.1) fun K : (Heap × Nat) → Option R => runDef P D n p h b fun h b => K (h, b) := by
  unfold runDef
  split
  · exact .pure (by exact .refl h)
  · split
    · rename_i fd hf
      exact .cond (fun _ => ((fn_one hD n [] fd).one h b _).comp (Ψ := fun x : Heap × Nat => Keeps h x.1) (G := fun x K => K (x.2.1, x.2.2)) fun x hx => .pure (by exact hx)) fun _ => .none
    · exact .none
theorem fnT_one {D : Specs R} (hD : Way D) (n : Nat) (fn : Func) : OneWay (evFnT P D n fn) := by
  refine .of fun hp b args => ?_
  unfold evFnT
  split
  · refine (top_one hD n _ _ hp b).comp (Ψ := K3 hp) (G := fun z K => match z.2.1 with
      | .exit _ => Option.none
      | _ => runDef P D n z.1 z.2.2.2.1 z.2.2.2.2 fun h2 b2 => match resC P (get h2) fn.results.toList z.2.2.1 with
        | some vs => K (one vs, h2, b2)
        | none => Option.none) fun z hz => ?_
    obtain ⟨p, e, ts, h, b⟩ := z
    have hm : One (K3 hp) fun K : (AV × Heap × Nat) → Option R => runDef P D n p h b fun h2 b2 => match resC P (get h2) fn.results.toList ts with
        | some vs => K (one vs, h2, b2)
        | none => Option.none := by
      refine (def_one hD n p h b).comp (Ψ := K3 hp) (G := fun x K => match resC P (get x.1) fn.results.toList ts with
        | some vs => K (one vs, x.1, x.2)
        | none => Option.none) fun x hx => ?_
      cases hr : resC P (get x.1) fn.results.toList ts with
      | none => exact .none
      | some vs => exact .pure (by exact hz.trans hx)
    cases e with
    | normal => exact hm
    | exit i => exact .none
    | ret => exact hm
  · exact .none
theorem fnT_sound {D : Specs R} (hD : Sound P D) (n : Nat) {f : FuncId} {fn : Func} (hf : P.funcs[f]? = some fn) (hb : fn.body.isNone = false) (hn : (fn.name == "runtime.NumGoroutine") = false) : SoundSpec P f (evFnT P D n fn) := by
  refine ⟨⟨fn, hf, hb, hn⟩, fnT_one hD.way n fn, fun m U h base w args xs K r hU H hc hk => ?_⟩
  cases hbody : fn.body with
  | none => rw [hbody] at hb; cases hb
  | some c => exact calls_of_wp_defers hf hbody (fnT_wp hD n hbody hU H hc hk)
/-- Has results in variables of their own (as every function that defers a call has, if it has results). -/
def special (fn : Func) : Bool := fn.results.toList.any fun x => match x with
  | .cell _ _ => true
  | .tmp _ => false
/-- A function by its own tree. -/
def evAny (P : Program) (D : Specs R) (n : Nat) (fn : Func) : Spec R :=
  match special fn with
  | true => evFnT P D n fn
  | false => evFn P D n [] fn
theorem any_sound {D : Specs R} (hD : Sound P D) (n : Nat) {f : FuncId} {fn : Func} (hf : P.funcs[f]? = some fn) (hb : fn.body.isNone = false) (hn : (fn.name == "runtime.NumGoroutine") = false) : SoundSpec P f (evAny P D n fn) := by
  unfold evAny
  split
  · exact fnT_sound hD n hf hb hn
  · exact fn_sound hD n [] hf hb hn
end
end Go.Proofs.YtipigcgegmedeaaGreat.Ev
