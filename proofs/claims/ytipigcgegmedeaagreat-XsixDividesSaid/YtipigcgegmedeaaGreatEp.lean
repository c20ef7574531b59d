/- The evaluator over a region that draws its order: whatever the order, it comes to what the order of the text comes to. -/
import Derived.Test.YtipigcgegmedeaaGreatEo
namespace Go.Proofs.YtipigcgegmedeaaGreat.Ev
open Go
set_option linter.unusedVariables false
set_option linter.unusedSimpArgs false
noncomputable section
variable {R : Type} {P : Program} {r : R} {m : Nam} {w : World} {o : Oper} {a : Act} {ts : List AV}

/-- What became of an operation: left out; a value and what is done to the store; a call's value, store and next name. -/
inductive Oc where
  | skip
  | val (v : AV) (d : Dl)
  | call (v : AV) (h0 h : Heap) (B : Nat)
def Oc.v : Oc → AV
  | .skip => .tuple []
  | .val v _ => v
  | .call v _ _ _ => v
def Oc.eff (base : Nat) (x : Oc) (k : Nm) : Option (Option Blk) :=
  match x with
  | .skip => none
  | .val _ d => d.eff base k
  | .call _ h0 h _ => match get h0 k, get h k with
    | some B0, some B1 => bif Nat.beq B0.st B1.st then none else some (some B1)
    | none, none => none
    | _, y => some y
def Oc.on (base : Nat) (x : Oc) (g : Gt) : Gt := fun k => (x.eff base k).getD (g k)
def Oc.app (h : Heap) (base : Nat) : Oc → Heap
  | .skip => h
  | .val _ d => d.app h base
  | .call _ _ h' _ => h'
def Oc.nb : Oc → Option Nat
  | .call _ _ _ B => some B
  | _ => none
def drawE (P : Program) (D : Specs R) (h : Heap) (base B : Nat) (ts : List AV) (o : Oper) (K : Oc → Option R) : Option R :=
  match callee o with
  | some (c, f) => match evA ts f with
    | .func g => match D g with
      | some s => s h B (c.args.toList.map (evA ts)) fun v h' B' => K (.call v h h' B')
      | none => none
    | _ => none
  | none => evD P (get h) base ts o fun v d => bif newOk h base d then K (.val v d) else none
def drawOp (P : Program) (D : Specs R) (h : Heap) (base B : Nat) (ops : Array Oper) (ts : List AV) (o : Oper) (K : List AV → Oc → Option R) : Option R :=
  match o.guard with
  | none => drawE P D h base B ts o fun x => K ts x
  | some (j, want) => match (ops[j]?).bind (·.dst) with
    | some q => match nth ts q with
      | .bool t => bif t then
          (match want with
          | true => drawE P D h base B (putAt ts q (.bool true)) o fun x => K (putAt ts q (.bool true)) x
          | false => K (putAt ts q (.bool true)) .skip)
        else
          (match want with
          | false => drawE P D h base B (putAt ts q (.bool false)) o fun x => K (putAt ts q (.bool false)) x
          | true => K (putAt ts q (.bool false)) .skip)
      | .tuple _ => K ts .skip
      | _ => none
    | none => none
def sees (ts : List AV) (o : Oper) : Oc → List Nm
  | .skip => []
  | .val _ _ => foot ts o
  | .call _ _ _ _ => []
def drawL (P : Program) (D : Specs R) (ops : Array Oper) (b0 : Nat) : List Oper → Nat → List AV → Heap → Nat → List (Oc × List Nm) → (List AV → Heap → Nat → List (Oc × List Nm) → Option R) → Option R
  | [], _, ts, h, B, F, K => K ts h B F
  | o :: rest, i, ts, h, B, F, K => drawOp P D h (b0 + i) B ops ts o fun ts' x => drawL P D ops b0 rest (i + 1) (putD ts' o.dst x.v) (x.app h (b0 + i)) (x.nb.getD B) (F ++ [(x, sees ts' o x)]) K

def nthN : List Nat → Nat → Nat
  | [], _ => 0
  | v :: _, 0 => v
  | _ :: t, n + 1 => nthN t n
/-- What stands ahead of an operation, as bits. -/
def maskOf (acc : List Nat) : List Edge → Nat
  | [] => 0
  | e :: t => (bif Region.binds .any e then (2 ^ e.on ||| nthN acc e.on) else 0) ||| maskOf acc t
def maskGo : List Oper → List Nat → List Nat
  | [], acc => acc
  | o :: t, acc => maskGo t (acc ++ [maskOf acc o.after.toList])
def Dl.wr : Dl → List Nm
  | .put n _ => [n]
  | .grow n _ => [n]
  | _ => []
def Oc.wr : Oc → List Nm
  | .val _ d => d.wr
  | _ => []
def freeOf (base : Nat) (x : Oc) (l : List Nm) : Bool := l.all fun n => (x.eff base n).isNone
/-- Does nothing to the store. -/
def Oc.still (x : Oc) : Bool :=
  match x with
  | .skip => true
  | .val _ .same => true
  | _ => false
/-- A block anew whose name a call knows nothing of. -/
def Oc.fresh (x : Oc) (b : Nat) (h0 h : Heap) : Bool :=
  match x with
  | .val _ (.new _) => (fam h0 b).isNone && (fam h b).isNone
  | _ => false
/-- In either order the same. -/
def pairOk (bi bj : Nat) (xi : Oc) (li : List Nm) (xj : Oc) (lj : List Nm) : Bool :=
  match xi, xj with
  | .call v h0 h B, xj => (xj.still || xj.fresh bj h0 h) && freeOf bi (.call v h0 h B) lj
  | xi, .call v h0 h B => xi.still && freeOf bj (.call v h0 h B) li
  | xi, xj => freeOf bi xi (lj ++ xj.wr) && freeOf bj xj (li ++ xi.wr)
/-- The pairs without an order (the later one first). -/
def unord (ops : Array Oper) : List (Nat × Nat) :=
  (List.range ops.size).flatMap fun j => ((List.range j).filter fun i => !(nthN (maskGo ops.toList []) j).testBit i).map fun i => (j, i)
/-- What can be told of a region by its text alone. -/
def statOk (ops : Array Oper) : Bool :=
  ((List.range ops.size).all fun j => match ops[j]? with
    | some o => o.after.toList.all fun e => !Region.binds .any e || Nat.blt e.on j
    | none => true) &&
  (unord ops).all fun p => match ops[p.2]?, ops[p.1]? with
    | some oi, some oj => oi.apart ops oj
    | _, _ => false
def dynOk (b0 : Nat) (F : List (Oc × List Nm)) (l : List (Nat × Nat)) : Bool := l.all fun p => match F[p.2]?, F[p.1]? with
  | some (xi, li), some (xj, lj) => pairOk (b0 + p.2) (b0 + p.1) xi li xj lj
  | _, _ => false
def drawOk (ops : Array Oper) (b0 : Nat) (F : List (Oc × List Nm)) : Bool := statOk ops && dynOk b0 F (unord ops)
theorem drawOk_low {ops : Array Oper} {b0 : Nat} {F : List (Oc × List Nm)} (h : drawOk ops b0 F = true) (j : Nat) (o : Oper) (e : Edge) (ho : ops[j]? = some o) (he : e ∈ o.after) (hb : Region.binds .any e = true) : e.on < j := by
  simp only [drawOk, statOk, Bool.and_eq_true] at h
  have h1 := List.all_eq_true.1 h.1.1 j (List.mem_range.2 (Array.getElem?_eq_some_iff.1 ho).1)
  rw [ho] at h1
  have := List.all_eq_true.1 h1 e (by simpa using he)
  rw [hb] at this
  simpa using this
theorem drawOk_pair {ops : Array Oper} {b0 : Nat} {F : List (Oc × List Nm)} (h : drawOk ops b0 F = true) {j i : Nat} (hj : j < ops.size) (hi : i < j) : (nthN (maskGo ops.toList []) j).testBit i = true ∨
    ∃ oi oj xi xj li lj, ops[i]? = some oi ∧ ops[j]? = some oj ∧ F[i]? = some (xi, li) ∧ F[j]? = some (xj, lj) ∧ oi.apart ops oj = true ∧ pairOk (b0 + i) (b0 + j) xi li xj lj = true := by
  cases hb : (nthN (maskGo ops.toList []) j).testBit i with
  | true => exact .inl rfl
  | false =>
    refine .inr ?_
    have hm : (j, i) ∈ unord ops := by
      unfold unord
      rw [List.mem_flatMap]
      refine ⟨j, List.mem_range.2 hj, ?_⟩
      rw [List.mem_map]
      exact ⟨i, List.mem_filter.2 ⟨List.mem_range.2 hi, by rw [hb]; rfl⟩, rfl⟩
    simp only [drawOk, statOk, Bool.and_eq_true] at h
    have h2 := List.all_eq_true.1 h.1.2 (j, i) hm
    have h3 := List.all_eq_true.1 h.2 (j, i) hm
    simp only at h2 h3
    split at h2
    · rename_i oi oj hoi hoj
      split at h3
      · rename_i xi li xj lj hxi hxj
        exact ⟨oi, oj, xi, xj, li, lj, hoi, hoj, hxi, hxj, h2, h3⟩
      · cases h3
    · cases h2

/-- The slots and the store behind some of the operations. -/
def rts : List (Oper × Oc) → (Nat → Bool) → Nat → List AV → List AV
  | [], _, _, ts => ts
  | (o, x) :: t, S, i, ts => rts t S (i + 1) (if S i = true then putD ts o.dst x.v else ts)
def rg (b0 : Nat) : List (Oper × Oc) → (Nat → Bool) → Nat → Gt → Gt
  | [], _, _, g => g
  | (o, x) :: t, S, i, g => rg b0 t S (i + 1) (if S i = true then x.on (b0 + i) g else g)
def rB : List (Oper × Oc) → (Nat → Bool) → Nat → Nat → Nat
  | [], _, _, B => B
  | (o, x) :: t, S, i, B => rB t S (i + 1) (if S i = true then x.nb.getD B else B)

def wantB (ops : Array Oper) (ts : List AV) (o : Oper) (b : Bool) : Prop :=
  match o.guard with
  | none => b = true
  | some (j, want) => ∃ q, (ops[j]?).bind (·.dst) = some q ∧ ((∃ t, nth ts q = .bool t ∧ (t == want) = b) ∨ (b = false ∧ ∃ cs, nth ts q = .tuple cs))
/-- An operation's outcome is the evaluator's. -/
def OkOp (P : Program) (D : Specs R) (h : Heap) (base B : Nat) (ops : Array Oper) (ts : List AV) (o : Oper) (x : Oc) : Prop :=
  (wantB ops ts o true ∧ ((∃ v d, x = .val v d ∧ callee o = none ∧ newOk h base d = true ∧ evV P (get h) base ts o = some (v, d)) ∨
    ∃ c f g s v h' B', x = .call v h h' B' ∧ callee o = some (c, f) ∧ evA ts f = .func g ∧ D g = some s ∧ Keeps h h' ∧ ∀ K, s h B (c.args.toList.map (evA ts)) K = K v h' B')) ∨ (wantB ops ts o false ∧ x = .skip)
def Way (D : Specs R) : Prop := ∀ f s, D f = some s → OneWay s
theorem drawE_ok {D : Specs R} (hD : Way D) {h : Heap} {base B : Nat} {K : Oc → Option R} (hk : drawE P D h base B ts o K = some r) : ∃ x, K x = some r ∧ ((∃ v d, x = .val v d ∧ callee o = none ∧ newOk h base d = true ∧ evV P (get h) base ts o = some (v, d)) ∨
    ∃ c f g s v h' B', x = .call v h h' B' ∧ callee o = some (c, f) ∧ evA ts f = .func g ∧ D g = some s ∧ Keeps h h' ∧ ∀ K, s h B (c.args.toList.map (evA ts)) K = K v h' B') := by
  unfold drawE at hk
  split at hk
  · rename_i c f hc
    split at hk
    · rename_i g hf
      split at hk
      · rename_i s hs
        obtain ⟨q, hq, hkp⟩ := hD g s hs h B (c.args.toList.map (evA ts))
        rw [hq] at hk
        obtain ⟨⟨v, h', B'⟩, e1, e2⟩ := Option.bind_eq_some_iff.1 hk
        exact ⟨_, e2, .inr ⟨c, f, g, s, v, h', B', rfl, hc, hf, hs, hkp _ e1, fun K => by rw [hq, e1]; rfl⟩⟩
      · cases hk
    · cases hk
  · rename_i hc
    rw [evD_nat] at hk
    obtain ⟨⟨v, d⟩, e1, e2⟩ := Option.bind_eq_some_iff.1 hk
    simp only at e2
    cases hn : newOk h base d with
    | false => rw [hn] at e2; cases e2
    | true => rw [hn] at e2; exact ⟨_, e2, .inl ⟨v, d, rfl, hc, hn, e1⟩⟩
theorem drawOp_ok {D : Specs R} (hD : Way D) {h : Heap} {base B : Nat} {ops : Array Oper} {K : List AV → Oc → Option R} (hk : drawOp P D h base B ops ts o K = some r) : ∃ x, K ts x = some r ∧ OkOp P D h base B ops ts o x := by
  unfold drawOp at hk
  split at hk
  · rename_i hg
    obtain ⟨x, e1, e2⟩ := drawE_ok hD hk
    exact ⟨_, e1, .inl ⟨by unfold wantB; rw [hg], e2⟩⟩
  · rename_i j want hg
    split at hk
    · rename_i q hq
      split at hk
      · rename_i t ht
        have hw : ∀ b, (t == want) = b → wantB ops ts o b := fun b e => by unfold wantB; rw [hg]; exact ⟨q, hq, .inl ⟨t, ht, e⟩⟩
        cases t <;> cases want
        · simp only [cond_false, putAt_same _ _ _ ht] at hk
          obtain ⟨x, e1, e2⟩ := drawE_ok hD hk
          exact ⟨_, e1, .inl ⟨hw true rfl, e2⟩⟩
        · simp only [cond_false, putAt_same _ _ _ ht] at hk
          exact ⟨_, hk, .inr ⟨hw false rfl, rfl⟩⟩
        · simp only [cond_true, putAt_same _ _ _ ht] at hk
          exact ⟨_, hk, .inr ⟨hw false rfl, rfl⟩⟩
        · simp only [cond_true, putAt_same _ _ _ ht] at hk
          obtain ⟨x, e1, e2⟩ := drawE_ok hD hk
          exact ⟨_, e1, .inl ⟨hw true rfl, e2⟩⟩
      · rename_i cs ht
        exact ⟨_, hk, .inr ⟨by unfold wantB; rw [hg]; exact ⟨q, hq, .inr ⟨rfl, cs, ht⟩⟩, rfl⟩⟩
      · cases hk
    · cases hk
theorem call_on {v : AV} {h h' : Heap} {B base : Nat} (hk : Keeps h h') : get h' = (Oc.call v h h' B).on base (get h) := by
  funext k
  simp only [Oc.on, Oc.eff]
  cases h0 : get h k with
  | none => cases get h' k <;> rfl
  | some B0 =>
    cases h1 : get h' k with
    | none => rfl
    | some B1 =>
      simp only [beq_cond]
      split
      · rename_i e; rw [hk.get h0 h1 e.symm]; rfl
      · rfl
theorem OkOp.app {D : Specs R} {h : Heap} {base B : Nat} {ops : Array Oper} {x : Oc} (hk : OkOp P D h base B ops ts o x) : get (x.app h base) = x.on base (get h) := by
  rcases hk with ⟨_, ⟨v, d, rfl, _, _, e⟩ | ⟨c, f, g, s, v, h', B', rfl, _, _, _, hkp, _⟩⟩ | ⟨_, rfl⟩
  · exact get_app h base d (evV_fits (get h) base v d e)
  · exact call_on hkp
  · rfl
theorem OkOp.keeps {D : Specs R} {h : Heap} {base B : Nat} {ops : Array Oper} {x : Oc} (hk : OkOp P D h base B ops ts o x) : Keeps h (x.app h base) := by
  rcases hk with ⟨_, ⟨v, d, rfl, _, hn, e⟩ | ⟨c, f, g, s, v, h', B', rfl, _, _, _, hkp, _⟩⟩ | ⟨_, rfl⟩
  · exact app_keeps (evV_fits (get h) base v d e) hn
  · exact hkp
  · exact .refl h

theorem drawL_trace {D : Specs R} (hD : Way D) {ops : Array Oper} {b0 : Nat} {K : List AV → Heap → Nat → List (Oc × List Nm) → Option R} : ∀ (l : List Oper) (i : Nat) (ts : List AV) (h : Heap) (B : Nat) (F : List (Oc × List Nm)), drawL P D ops b0 l i ts h B F K = some r →
    ∃ (X : List Oc) (G : List (Oc × List Nm)) (h' : Heap), X.length = l.length ∧ G.length = l.length ∧ K (rts (l.zip X) (fun _ => true) i ts) h' (rB (l.zip X) (fun _ => true) i B) (F ++ G) = some r ∧ get h' = rg b0 (l.zip X) (fun _ => true) i (get h) ∧
      ∀ k o x, (l.zip X)[k]? = some (o, x) → (∃ hk, get hk = rg b0 ((l.zip X).take k) (fun _ => true) i (get h) ∧ OkOp P D hk (b0 + (i + k)) (rB ((l.zip X).take k) (fun _ => true) i B) ops (rts ((l.zip X).take k) (fun _ => true) i ts) o x) ∧ G[k]? = some (x, sees (rts ((l.zip X).take k) (fun _ => true) i ts) o x) := by
  intro l
  induction l with
  | nil => intro i ts h B F hk; exact ⟨[], [], h, rfl, rfl, by simpa [rts, rB, drawL] using hk, rfl, fun k o x e => by simp at e⟩
  | cons o l ih =>
    intro i ts h B F hk
    simp only [drawL] at hk
    obtain ⟨x, hk, hok⟩ := drawOp_ok hD hk
    obtain ⟨X, G, h', e1, e2, e3, e4, e5⟩ := ih _ _ _ _ _ hk
    have hg : get (x.app h (b0 + i)) = x.on (b0 + i) (get h) := hok.app
    refine ⟨x :: X, (x, sees ts o x) :: G, h', by simp [e1], by simp [e2], by simpa [rts, rB] using e3, ?_, ?_⟩
    · rw [e4, hg]; simp [rg]
    · intro k o' x' hz
      cases k with
      | zero =>
        simp only [List.zip_cons_cons, List.getElem?_cons_zero, Option.some.injEq, Prod.mk.injEq] at hz
        obtain ⟨rfl, rfl⟩ := hz
        exact ⟨⟨h, by simp [rg], by simpa [rts, rB] using hok⟩, by simp [rts]⟩
      | succ k =>
        simp only [List.zip_cons_cons, List.getElem?_cons_succ] at hz
        obtain ⟨⟨hh, q0, q1⟩, q2⟩ := e5 k o' x' hz
        rw [hg] at q0
        refine ⟨⟨hh, ?_, ?_⟩, by simpa [rts] using q2⟩
        · simp only [List.zip_cons_cons, List.take_succ_cons, rg, if_true]
          exact q0
        · simp only [List.zip_cons_cons, List.take_succ_cons, rts, rB, if_true]
          rw [show i + (k + 1) = i + 1 + k by omega]
          exact q1

/-! ### What stands in a slot, and in the store, behind some of the operations -/
theorem putD_len (ts : List AV) (d : Option Tmp) (v : AV) : (putD ts d v).length = ts.length := by cases d <;> simp [putD, putAt_len]
theorem rts_len (S : Nat → Bool) : ∀ (L : List (Oper × Oc)) (i : Nat) (ts : List AV), (rts L S i ts).length = ts.length := by
  intro L
  induction L with
  | nil => intro i ts; rfl
  | cons p L ih => intro i ts; obtain ⟨o, x⟩ := p; simp only [rts, ih]; split <;> simp [putD_len]
theorem nth_put_ne : ∀ (ts : List AV) (d e : Nat) (v : AV), d ≠ e → nth (putAt ts e v) d = nth ts d
  | [], d, e, v, h => rfl
  | x :: t, 0, 0, v, h => absurd rfl h
  | x :: t, 0, e + 1, v, h => rfl
  | x :: t, d + 1, 0, v, h => rfl
  | x :: t, d + 1, e + 1, v, h => nth_put_ne t d e v (by omega)
theorem nth_put_eq : ∀ (ts : List AV) (d : Nat) (v : AV), d < ts.length → nth (putAt ts d v) d = v
  | [], d, v, h => by simp at h
  | x :: t, 0, v, h => rfl
  | x :: t, d + 1, v, h => nth_put_eq t d v (by simpa using h)
theorem nth_out : ∀ (ts : List AV) (d : Nat), ts.length ≤ d → nth ts d = .undef
  | [], d, h => rfl
  | x :: t, 0, h => by simp at h
  | x :: t, d + 1, h => nth_out t d (by simpa using h)
theorem nth_putD (ts : List AV) (e : Option Tmp) (v : AV) (d : Nat) : nth (putD ts e v) d = if e = some d ∧ d < ts.length then v else nth ts d := by
  cases e with
  | none => simp [putD]
  | some e =>
    simp only [putD, Option.some.injEq]
    by_cases h : e = d
    · subst h
      by_cases hl : e < ts.length
      · rw [if_pos ⟨rfl, hl⟩]; exact nth_put_eq ts e v hl
      · rw [if_neg (fun q => hl q.2), nth_out _ _ (by rw [putAt_len]; exact Nat.le_of_not_lt hl), nth_out _ _ (Nat.le_of_not_lt hl)]
    · rw [if_neg (fun q => h q.1)]; exact nth_put_ne ts d e v (Ne.symm h)
theorem rts_agree {S S' : Nat → Bool} {d : Nat} : ∀ (L : List (Oper × Oc)) (i : Nat) (ts ts' : List AV), nth ts d = nth ts' d → ts.length = ts'.length →
    (∀ k o x, L[k]? = some (o, x) → o.dst = some d → S (i + k) = S' (i + k)) → nth (rts L S i ts) d = nth (rts L S' i ts') d := by
  intro L
  induction L with
  | nil => intro i ts ts' h _ _; exact h
  | cons p L ih =>
    intro i ts ts' h hl hs
    obtain ⟨o, x⟩ := p
    simp only [rts]
    refine ih (i + 1) _ _ ?_ ?_ fun k o' x' hk hd => ?_
    · by_cases hd : o.dst = some d
      · have := hs 0 o x rfl hd
        rw [Nat.add_zero] at this
        rw [this]
        split
        · rw [nth_putD, nth_putD, hl, h]
        · exact h
      · have e : ∀ (u : List AV) (b : Bool), nth (if b = true then putD u o.dst x.v else u) d = nth u d := by
          intro u b
          split
          · rw [nth_putD, if_neg (fun q => hd q.1)]
          · rfl
        rw [e, e, h]
    · split <;> split <;> simp [putD_len, hl]
    · have := hs (k + 1) o' x' (by simpa using hk) hd
      rwa [show i + (k + 1) = i + 1 + k by omega] at this
theorem rg_agree {b0 : Nat} {S S' : Nat → Bool} {n : Nm} : ∀ (L : List (Oper × Oc)) (i : Nat) (g g' : Gt), g n = g' n →
    (∀ k o x, L[k]? = some (o, x) → (x.eff (b0 + (i + k)) n).isSome = true → S (i + k) = S' (i + k)) → rg b0 L S i g n = rg b0 L S' i g' n := by
  intro L
  induction L with
  | nil => intro i g g' h _; exact h
  | cons p L ih =>
    intro i g g' h hs
    obtain ⟨o, x⟩ := p
    simp only [rg]
    refine ih (i + 1) _ _ ?_ fun k o' x' hk hd => ?_
    · have e : ∀ (u : Gt) (b : Bool), (if b = true then x.on (b0 + i) u else u) n = if b = true then (x.eff (b0 + i) n).getD (u n) else u n := by intro u b; split <;> rfl
      rw [e, e]
      cases hx : x.eff (b0 + i) n with
      | none => simp [h]
      | some z =>
        have := hs 0 o x rfl (by rw [Nat.add_zero, hx]; rfl)
        rw [Nat.add_zero] at this
        rw [this]
        simp [h]
    · have := hs (k + 1) o' x' (by simpa using hk) (by rw [show i + (k + 1) = i + 1 + k by omega]; exact hd)
      rwa [show i + (k + 1) = i + 1 + k by omega] at this
theorem rts_last {S : Nat → Bool} {d : Nat} : ∀ (L : List (Oper × Oc)) (i : Nat) (ts : List AV) (k : Nat) (o : Oper) (x : Oc), L[k]? = some (o, x) → o.dst = some d → S (i + k) = true → d < ts.length →
    (∀ j o' x', k < j → L[j]? = some (o', x') → S (i + j) = true → o'.dst ≠ some d) → nth (rts L S i ts) d = x.v := by
  intro L
  induction L with
  | nil => intro i ts k o x h; simp at h
  | cons p L ih =>
    intro i ts k o x h hd hS hl hlast
    obtain ⟨o1, x1⟩ := p
    simp only [rts]
    cases k with
    | zero =>
      simp only [List.getElem?_cons_zero, Option.some.injEq, Prod.mk.injEq] at h
      obtain ⟨rfl, rfl⟩ := h
      rw [if_pos (by simpa using hS)]
      have : nth (rts L S (i + 1) (putD ts o1.dst x1.v)) d = nth (rts L (fun _ => false) (i + 1) (putD ts o1.dst x1.v)) d := by
        refine rts_agree L (i + 1) _ _ rfl rfl fun k o' x' hk hdd => ?_
        have := hlast (k + 1) o' x' (by omega) (by simpa using hk)
        cases hs : S (i + 1 + k) with
        | false => rfl
        | true => exact absurd hdd (this (by rw [show i + (k + 1) = i + 1 + k by omega]; exact hs))
      rw [this]
      have hno : ∀ (M : List (Oper × Oc)) (i : Nat) (u : List AV), rts M (fun _ => false) i u = u := by
        intro M
        induction M with
        | nil => intro i u; rfl
        | cons p M ih => intro i u; obtain ⟨o, x⟩ := p; simp [rts, ih]
      rw [hno, nth_putD, if_pos ⟨hd, hl⟩]
    | succ k =>
      refine ih (i + 1) _ k o x (by simpa using h) hd (by rw [show i + 1 + k = i + (k + 1) by omega]; exact hS) (by split <;> simp [putD_len, hl]) fun j o' x' hj hk hs => ?_
      exact hlast (j + 1) o' x' (by omega) (by simpa using hk) (by rw [show i + (j + 1) = i + 1 + j by omega]; exact hs)
theorem rg_last {b0 : Nat} {S : Nat → Bool} {n : Nm} : ∀ (L : List (Oper × Oc)) (i : Nat) (g : Gt) (k : Nat) (o : Oper) (x : Oc) (z : Option Blk), L[k]? = some (o, x) → x.eff (b0 + (i + k)) n = some z → S (i + k) = true →
    (∀ j o' x', k < j → L[j]? = some (o', x') → S (i + j) = true → x'.eff (b0 + (i + j)) n = none) → rg b0 L S i g n = z := by
  intro L
  induction L with
  | nil => intro i g k o x z h; simp at h
  | cons p L ih =>
    intro i g k o x z h hd hS hlast
    obtain ⟨o1, x1⟩ := p
    simp only [rg]
    cases k with
    | zero =>
      simp only [List.getElem?_cons_zero, Option.some.injEq, Prod.mk.injEq] at h
      obtain ⟨rfl, rfl⟩ := h
      rw [if_pos (by simpa using hS)]
      have : rg b0 L S (i + 1) (x1.on (b0 + i) g) n = rg b0 L (fun _ => false) (i + 1) (x1.on (b0 + i) g) n := by
        refine rg_agree L (i + 1) _ _ rfl fun k o' x' hk hdd => ?_
        have := hlast (k + 1) o' x' (by omega) (by simpa using hk)
        cases hs : S (i + 1 + k) with
        | false => rfl
        | true =>
          rw [show i + (k + 1) = i + 1 + k by omega] at this
          rw [this hs] at hdd; cases hdd
      rw [this]
      have hno : ∀ (M : List (Oper × Oc)) (i : Nat) (u : Gt), rg b0 M (fun _ => false) i u = u := by
        intro M
        induction M with
        | nil => intro i u; rfl
        | cons p M ih => intro i u; obtain ⟨o, x⟩ := p; simp [rg, ih]
      rw [hno]
      simp only [Nat.add_zero] at hd
      simp [Oc.on, hd]
    | succ k =>
      refine ih (i + 1) _ k o x z (by simpa using h) (by rw [show i + 1 + k = i + (k + 1) by omega]; exact hd) (by rw [show i + 1 + k = i + (k + 1) by omega]; exact hS) fun j o' x' hj hk hs => ?_
      have := hlast (j + 1) o' x' (by omega) (by simpa using hk)
      rw [show i + (j + 1) = i + 1 + j by omega] at this
      exact this hs
theorem rB_agree {S S' : Nat → Bool} : ∀ (L : List (Oper × Oc)) (i : Nat) (B : Nat),
    (∀ k o x, L[k]? = some (o, x) → x.nb.isSome = true → S (i + k) = S' (i + k)) → rB L S i B = rB L S' i B := by
  intro L
  induction L with
  | nil => intro i B _; rfl
  | cons p L ih =>
    intro i B hs
    obtain ⟨o, x⟩ := p
    have e : (if S i = true then x.nb.getD B else B) = if S' i = true then x.nb.getD B else B := by
      cases hx : x.nb with
      | none => simp
      | some z =>
        have := hs 0 o x rfl (by rw [hx]; rfl)
        rw [Nat.add_zero] at this
        rw [this]
    simp only [rB, e]
    refine ih (i + 1) _ fun k o' x' hk hd => ?_
    have := hs (k + 1) o' x' (by simpa using hk) hd
    rwa [show i + (k + 1) = i + 1 + k by omega] at this
theorem rB_last {S : Nat → Bool} : ∀ (L : List (Oper × Oc)) (i : Nat) (B : Nat) (k : Nat) (o : Oper) (x : Oc) (z : Nat), L[k]? = some (o, x) → x.nb = some z → S (i + k) = true →
    (∀ j o' x', k < j → L[j]? = some (o', x') → S (i + j) = true → x'.nb = none) → rB L S i B = z := by
  intro L
  induction L with
  | nil => intro i B k o x z h; simp at h
  | cons p L ih =>
    intro i B k o x z h hd hS hlast
    obtain ⟨o1, x1⟩ := p
    simp only [rB]
    cases k with
    | zero =>
      simp only [List.getElem?_cons_zero, Option.some.injEq, Prod.mk.injEq] at h
      obtain ⟨rfl, rfl⟩ := h
      rw [if_pos (by simpa using hS), hd, Option.getD_some]
      have : rB L S (i + 1) z = rB L (fun _ => false) (i + 1) z := by
        refine rB_agree L (i + 1) _ fun k o' x' hk hdd => ?_
        have := hlast (k + 1) o' x' (by omega) (by simpa using hk)
        cases hs : S (i + 1 + k) with
        | false => rfl
        | true =>
          rw [show i + (k + 1) = i + 1 + k by omega] at this
          rw [this hs] at hdd; cases hdd
      rw [this]
      have hno : ∀ (M : List (Oper × Oc)) (i : Nat) (u : Nat), rB M (fun _ => false) i u = u := by
        intro M
        induction M with
        | nil => intro i u; rfl
        | cons p M ih => intro i u; obtain ⟨o, x⟩ := p; simp [rB, ih]
      rw [hno]
    | succ k =>
      refine ih (i + 1) _ k o x z (by simpa using h) hd (by rw [show i + 1 + k = i + (k + 1) by omega]; exact hS) fun j o' x' hj hk hs => ?_
      have := hlast (j + 1) o' x' (by omega) (by simpa using hk)
      rw [show i + (j + 1) = i + 1 + j by omega] at this
      exact this hs
theorem rB_take (L : List (Oper × Oc)) : ∀ (i k : Nat) (B : Nat), rB (L.take k) (fun _ => true) i B = rB L (fun j => decide (j < i + k)) i B := by
  induction L with
  | nil => intro i k B; simp [rB]
  | cons p L ih =>
    intro i k B
    obtain ⟨o, x⟩ := p
    cases k with
    | zero =>
      have hno : ∀ (M : List (Oper × Oc)) (S : Nat → Bool) (i : Nat) (u : Nat), (∀ j, i ≤ j → S j = false) → rB M S i u = u := by
        intro M S
        induction M with
        | nil => intro i u _; rfl
        | cons p M ih => intro i u hS; obtain ⟨o, x⟩ := p; simp only [rB, hS i (Nat.le_refl _)]; exact ih (i + 1) u fun j hj => hS j (by omega)
      exact (hno ((o, x) :: L) (fun j => decide (j < i + 0)) i B fun j hj => by simp; omega).symm
    | succ k =>
      simp only [List.take_succ_cons, rB, if_true]
      rw [ih (i + 1) k, show i + 1 + k = i + (k + 1) by omega, if_pos (by simp)]
theorem rts_take (L : List (Oper × Oc)) : ∀ (i k : Nat) (ts : List AV), rts (L.take k) (fun _ => true) i ts = rts L (fun j => decide (j < i + k)) i ts := by
  induction L with
  | nil => intro i k ts; simp [rts]
  | cons p L ih =>
    intro i k ts
    obtain ⟨o, x⟩ := p
    cases k with
    | zero =>
      have hno : ∀ (M : List (Oper × Oc)) (S : Nat → Bool) (i : Nat) (u : List AV), (∀ j, i ≤ j → S j = false) → rts M S i u = u := by
        intro M S
        induction M with
        | nil => intro i u _; rfl
        | cons p M ih => intro i u hS; obtain ⟨o, x⟩ := p; simp only [rts, hS i (Nat.le_refl _)]; exact ih (i + 1) u fun j hj => hS j (by omega)
      exact (hno ((o, x) :: L) (fun j => decide (j < i + 0)) i ts fun j hj => by simp; omega).symm
    | succ k =>
      simp only [List.take_succ_cons, rts, if_true]
      rw [ih (i + 1) k, show i + 1 + k = i + (k + 1) by omega, if_pos (by simp)]
theorem rg_take {b0 : Nat} (L : List (Oper × Oc)) : ∀ (i k : Nat) (g : Gt), rg b0 (L.take k) (fun _ => true) i g = rg b0 L (fun j => decide (j < i + k)) i g := by
  induction L with
  | nil => intro i k g; simp [rg]
  | cons p L ih =>
    intro i k g
    obtain ⟨o, x⟩ := p
    cases k with
    | zero =>
      have hno : ∀ (M : List (Oper × Oc)) (S : Nat → Bool) (i : Nat) (u : Gt), (∀ j, i ≤ j → S j = false) → rg b0 M S i u = u := by
        intro M S
        induction M with
        | nil => intro i u _; rfl
        | cons p M ih => intro i u hS; obtain ⟨o, x⟩ := p; simp only [rg, hS i (Nat.le_refl _)]; exact ih (i + 1) u fun j hj => hS j (by omega)
      exact (hno ((o, x) :: L) (fun j => decide (j < i + 0)) i g fun j hj => by simp; omega).symm
    | succ k =>
      simp only [List.take_succ_cons, rg, if_true]
      rw [ih (i + 1) k, show i + 1 + k = i + (k + 1) by omega, if_pos (by simp)]

/-! ### What stands ahead -/
theorem mask_sound {ops : List Oper} {D : Nat → Prop} (hD : ∀ j o e, ops[j]? = some o → D j → e ∈ o.after → Region.binds .any e = true → D e.on) :
    ∀ (acc : List Nat), (∀ k i, (nthN acc k).testBit i = true → ∀ o, ops[k]? = some o → (∀ e ∈ o.after, Region.binds .any e = true → D e.on) → D i) →
      ∀ (es : List Edge) (i : Nat), (maskOf acc es).testBit i = true → (∀ e ∈ es, Region.binds .any e = true → D e.on) → (∀ e ∈ es, Region.binds .any e = true → ops[e.on]?.isSome) → D i := by
  intro acc hacc es
  induction es with
  | nil => intro i h; simp [maskOf] at h
  | cons e es ih =>
    intro i h hes hin
    simp only [maskOf, Nat.testBit_or, Bool.or_eq_true] at h
    rcases h with h | h
    · cases hb : Region.binds .any e with
      | false => rw [hb] at h; simp at h
      | true =>
        rw [hb] at h
        simp only [cond_true, Nat.testBit_or, Bool.or_eq_true] at h
        have hde := hes e (by simp) hb
        rcases h with h | h
        · have : i = e.on := by
            rw [Nat.testBit_two_pow] at h
            simpa using (of_decide_eq_true h).symm
          rw [this]; exact hde
        · obtain ⟨o, ho⟩ := Option.isSome_iff_exists.1 (hin e (by simp) hb)
          exact hacc e.on i h o ho fun e' he' hb' => hD e.on o e' ho hde he' hb'
    · exact ih i h (fun e' he' => hes e' (by simp [he'])) (fun e' he' => hin e' (by simp [he']))
theorem nthN_append : ∀ (l : List Nat) (v k : Nat), nthN (l ++ [v]) k = if k = l.length then v else nthN l k
  | [], v, 0 => rfl
  | [], v, k + 1 => by simp [nthN]
  | x :: l, v, 0 => by simp [nthN]
  | x :: l, v, k + 1 => by simp [nthN, nthN_append l v k]
theorem masks_sound {ops : List Oper} {D : Nat → Prop} (hlow : ∀ j o e, ops[j]? = some o → e ∈ o.after → Region.binds .any e = true → e.on < j) (hD : ∀ j o e, ops[j]? = some o → D j → e ∈ o.after → Region.binds .any e = true → D e.on) :
    ∀ (l : List Oper) (acc : List Nat) (done : List Oper), ops = done ++ l → acc.length = done.length →
      (∀ k i, (nthN acc k).testBit i = true → ∀ o, ops[k]? = some o → (∀ e ∈ o.after, Region.binds .any e = true → D e.on) → D i) →
      ∀ k i, (nthN (maskGo l acc) k).testBit i = true → ∀ o, ops[k]? = some o → (∀ e ∈ o.after, Region.binds .any e = true → D e.on) → D i := by
  intro l
  induction l with
  | nil => intro acc done _ _ h; exact h
  | cons o l ih =>
    intro acc done he hl hacc
    simp only [maskGo]
    refine ih _ (done ++ [o]) (by simp [he]) (by simp [hl]) fun k i hk o' ho' hes => ?_
    rw [nthN_append] at hk
    split at hk
    · rename_i hkl
      have : o' = o := by
        rw [he, hkl, hl, List.getElem?_append_right (Nat.le_refl _)] at ho'
        simpa using ho'.symm
      subst this
      refine mask_sound hD acc hacc _ i hk (fun e he => hes e (by simpa using he)) fun e hee hb => ?_
      have := hlow k o' e ho' (by simpa using hee) hb
      have hk2 := (List.getElem?_eq_some_iff.1 ho').1
      rw [List.getElem?_eq_getElem (by omega)]; rfl
    · exact hacc k i hk o' ho' hes
theorem masks_ok {ops : Array Oper} {D : Nat → Prop} (hlow : ∀ j o e, ops[j]? = some o → e ∈ o.after → Region.binds .any e = true → e.on < j) (hD : ∀ j o e, ops[j]? = some o → D j → e ∈ o.after → Region.binds .any e = true → D e.on)
    {k i : Nat} {o : Oper} (ho : ops[k]? = some o) (hes : ∀ e ∈ o.after, Region.binds .any e = true → D e.on) (h : (nthN (maskGo ops.toList []) k).testBit i = true) : D i :=
  masks_sound (ops := ops.toList) (fun j o e q => hlow j o e (by simpa using q)) (fun j o e q => hD j o e (by simpa using q)) ops.toList [] [] rfl rfl (fun k i hk => by simp [nthN] at hk) k i h o (by simpa using ho) hes
end
end Go.Proofs.YtipigcgegmedeaaGreat.Ev
