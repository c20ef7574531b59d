/- A quick evaluator for closed calls: regions, code, functions; what it comes to, the evaluator comes to. -/
import Derived.Test.YtipigcgegmedeaaGreatFk
namespace Go.Proofs.YtipigcgegmedeaaGreat.Ev
open Go
set_option linter.unusedVariables false
set_option linter.unusedSimpArgs false
noncomputable section
variable {R : Type} {P : Program}

abbrev KVQ (R : Type) := AV → QH → Nat → Option R
abbrev SpecQ (R : Type) := QH → Nat → List AV → KVQ R → Option R
abbrev SpecsQ (R : Type) := FuncId → Option (SpecQ R)
abbrev KSQ (R : Type) := Tri AV → QH → Nat → Option R
def tellF (M : Md R) (V d : Nat) (t : Bool) (F : Tri AV) : Tri AV :=
  match M.tl with
  | true => putT (.bool t) (path V d) F
  | false => F
def tellC (M : Md R) (V : Nat) (c : Operand) (t : Bool) (F : Tri AV) : Tri AV :=
  match c with
  | .tmp d => tellF M V d t F
  | _ => F
section
variable {Rq : Type} {M : Md Rq}
def KRel (δ : Dn M R) (W : Nat) (r : R) (Kq : KVQ Rq) (K : Kont R) : Prop := ∀ v q h b, HQ W q h → δ.den (Kq v q b) = some r → K v h b = some r
def RefS (δ : Dn M R) (W : Nat) (r : R) (sq : SpecQ Rq) (s : Spec R) : Prop := ∀ q h b args Kq K, HQ W q h → KRel δ W r Kq K → δ.den (sq q b args Kq) = some r → s h b args K = some r
def RefD (δ : Dn M R) (W : Nat) (r : R) (Dq : SpecsQ Rq) (D : Specs R) : Prop := ∀ f sq, Dq f = some sq → ∃ s, D f = some s ∧ RefS δ W r sq s
end
def callQ (D : SpecsQ R) (V W : Nat) (c : Go.Call) (f : Operand) (F : Tri AV) (q : QH) (b : Nat) (K : KVQ R) : Option R :=
  match evF V F f with
  | .func g => match D g with
    | some s => s q b (c.args.toList.map (evF V F)) K
    | none => none
  | _ => none
def oneQ (M : Md R) (P : Program) (D : SpecsQ R) (V W : Nat) (o : Oper) (F : Tri AV) (q : QH) (b : Nat) (K : KVQ R) : Option R :=
  match (kindOf P o : Kind R) with
  | .call c f => callQ D V W c f F q b K
  | .op f => f M P V F (getQ W q) b (fun v => K v q b) (onQ W q b K)
def guardQ (M : Md R) (P : Program) (D : SpecsQ R) (V W : Nat) (ops : Array Oper) (o : Oper) (j : Nat) (want : Bool) (F : Tri AV) (q : QH) (b : Nat) (K : KSQ R) : Option R :=
  match (ops[j]?).bind (·.dst) with
    | some d => match getT .undef (path V d) F with
      | .bool t => M.cnd t
          (match want with
          | true => oneQ M P D V W o (tellF M V d true F) q b fun v q b => K (putQ V (tellF M V d true F) o.dst v) q b
          | false => K (putQ V (tellF M V d true F) o.dst (.tuple [])) q b)
          (match want with
          | false => oneQ M P D V W o (tellF M V d false F) q b fun v q b => K (putQ V (tellF M V d false F) o.dst v) q b
          | true => K (putQ V (tellF M V d false F) o.dst (.tuple [])) q b)
      | .tuple _ => K (putQ V F o.dst (.tuple [])) q b
      | _ => none
    | none => none
def stepQ (M : Md R) (P : Program) (D : SpecsQ R) (V W : Nat) (ops : Array Oper) (o : Oper) (F : Tri AV) (q : QH) (b : Nat) (K : KSQ R) : Option R :=
  match o.guard with
  | none => oneQ M P D V W o F q b fun v q b => K (putQ V F o.dst v) q b
  | some (j, want) => guardQ M P D V W ops o j want F q b K
def runQ (M : Md R) (P : Program) (D : SpecsQ R) (V W : Nat) (ops : Array Oper) (l : List Oper) : Tri AV → QH → Nat → KSQ R → Option R :=
  List.rec (motive := fun _ => Tri AV → QH → Nat → KSQ R → Option R) (fun F q b K => K F q b)
    (fun o _ ih F q b K => stepQ M P D V W ops o F q b fun F q b => ih F q b K) l

variable {Rq : Type} {M : Md Rq} {δ : Dn M R} {D : Specs R} {Dq : SpecsQ Rq} {V W : Nat} {r : R} {F : Tri AV} {ts : List AV} {q : QH} {h : Heap} {b : Nat} {o : Oper}
theorem call_ref (hD : RefD δ W r Dq D) (H : HQ W q h) (T : FR V F ts) {c : Go.Call} {f : Operand} {Kq : KVQ Rq} {K : Kont R} (hK : KRel δ W r Kq K) (hk : δ.den (callQ Dq V W c f F q b Kq) = some r) :
    (match evA ts f with
    | .func g => match D g with
      | some s => s h b (c.args.toList.map (evA ts)) K
      | none => none
    | _ => none) = some r := by
  unfold callQ at hk
  rw [T.ev] at hk
  split at hk
  · rename_i g hg
    split at hk
    · rename_i sq hs
      obtain ⟨s, hs', hr⟩ := hD g sq hs
      simp only [hg, hs']
      exact hr _ _ _ _ _ _ H hK hk
    · rw [δ.n0] at hk; cases hk
  · rw [δ.n0] at hk; cases hk
theorem one_ref (hD : RefD δ W r Dq D) (H : HQ W q h) (T : FR V F ts) {Kq : KVQ Rq} {K : Kont R} (hK : KRel δ W r Kq K) (hk : δ.den (oneQ M P Dq V W o F q b Kq) = some r) : evOp P D ts h b o K = some r := by
  unfold oneQ at hk
  unfold evOp
  have hko : KindOk P o (kindOf P o : Kind Rq) := kind_ok o
  split at hk
  · rename_i c f hkind
    rw [hkind] at hko
    have hc : callee o = some (c, f) := hko
    simp only [hc]
    exact call_ref hD H T hK hk
  · rename_i f hkind
    rw [hkind] at hko
    obtain ⟨hc, hf⟩ := hko
    simp only [hc]
    obtain ⟨v, d, e1, hk⟩ := hf δ r V F ts (getQ W q) b (fun v => Kq v q b) (onQ W q b Kq) T (fun v => rfl) hk
    rw [H.get] at e1
    rw [evD_nat, e1]
    exact on_ref δ.n0 H (fun v q' h' b' H' hk' => hK v q' h' b' H' hk') hk
theorem tellF_ref (T : FR V F ts) {d : Nat} {t : Bool} (h : nth ts d = .bool t) : FR V (tellF M V d t F) ts := by
  unfold tellF
  split
  · have := T.put d (.bool t)
    rwa [putAt_same _ _ _ h] at this
  · exact T
theorem step_ref (hD : RefD δ W r Dq D) {ops : Array Oper} {l : List Oper} {Kq : KSQ Rq} {K : KS R} (H : HQ W q h) (T : FR V F ts)
    (hK : ∀ F ts q h b, FR V F ts → HQ W q h → δ.den (Kq F q b) = some r → evL P D ops l ts h b K = some r) (hk : δ.den (stepQ M P Dq V W ops o F q b Kq) = some r) : evL P D ops (o :: l) ts h b K = some r := by
  unfold stepQ at hk
  simp only [evL]
  have hop : ∀ F, FR V F ts → δ.den (oneQ M P Dq V W o F q b (fun v q b => Kq (putQ V F o.dst v) q b)) = some r → evOp P D ts h b o (fun v h' b' => evL P D ops l (putD ts o.dst v) h' b' K) = some r := fun F T hk =>
    one_ref hD H T (fun v q h b H' hk' => hK _ _ _ _ _ (T.putD o.dst v) H' hk') hk
  have hsk : ∀ F, FR V F ts → δ.den (Kq (putQ V F o.dst (.tuple [])) q b) = some r → evL P D ops l (putD ts o.dst (.tuple [])) h b K = some r := fun F T hk => hK _ _ _ _ _ (T.putD _ _) H hk
  split at hk
  · rename_i hg
    simp only [hg]
    exact hop F T hk
  · rename_i j want hg
    simp only [hg]
    unfold guardQ at hk
    split at hk
    · rename_i d hd
      simp only [hd]
      rw [(T.2 d).1] at hk
      split at hk
      · rename_i t ht
        simp only [ht]
        rw [δ.cn] at hk
        have T' := tellF_ref (M := M) T ht
        cases t <;> cases want <;> simp only [cond_true, cond_false, putAt_same _ _ _ ht] at hk ⊢ <;> first | exact hop _ T' hk | exact hsk _ T' hk
      · rename_i cs ht
        simp only [ht]
        exact hsk _ T hk
      · rw [δ.n0] at hk; cases hk
    · rw [δ.n0] at hk; cases hk
theorem run_ref (hD : RefD δ W r Dq D) {ops : Array Oper} {Kq : KSQ Rq} {K : KS R} (hK : ∀ F ts q h b, FR V F ts → HQ W q h → δ.den (Kq F q b) = some r → K ts h b = some r) :
    ∀ (l : List Oper) (F : Tri AV) (ts : List AV) (q : QH) (h : Heap) (b : Nat), FR V F ts → HQ W q h → δ.den (runQ M P Dq V W ops l F q b Kq) = some r → evL P D ops l ts h b K = some r := by
  intro l
  induction l with
  | nil => intro F ts q h b T H hk; exact hK _ _ _ _ _ T H hk
  | cons o l ih => intro F ts q h b T H hk; exact step_ref hD H T (fun F ts q h b T H hk => ih F ts q h b T H hk) hk

/-! ### Drawn regions -/
inductive OcQ where
  | skip
  | val (v : AV) (d : Dl)
  | call (v : AV) (q0 q : QH) (B : Nat)
def OcQ.v : OcQ → AV
  | .skip => .tuple []
  | .val v _ => v
  | .call v _ _ _ => v
def appDl (W : Nat) (q : QH) (b : Nat) : Dl → QH
  | .same => q
  | .new B => putT (some (.one B)) (path W b) q
  | .put n B => modQ W n.fam (Fam.set n.idx B) q
  | .grow n B => putT (some (.one B)) (path W b) (modQ W n.fam (Fam.kill n.idx) q)
def newOkQ (W : Nat) (q : QH) (b : Nat) : Dl → Bool
  | .new _ => (getT none (path W b) q).isNone && inT (path W b) q
  | .grow _ _ => (getT none (path W b) q).isNone && inT (path W b) q
  | _ => true
def OcQ.app (W : Nat) (q : QH) (b : Nat) : OcQ → QH
  | .skip => q
  | .val _ d => appDl W q b d
  | .call _ _ q' _ => q'
def OcQ.nb : OcQ → Option Nat
  | .call _ _ _ B => some B
  | _ => none
inductive OcR (W : Nat) : OcQ → Oc → Prop where
  | skip : OcR W .skip .skip
  | val (v d) : OcR W (.val v d) (.val v d)
  | call (v) {q0 q h0 h} (B) : HQ W q0 h0 → HQ W q h → OcR W (.call v q0 q B) (.call v h0 h B)
theorem newOk_ref (H : HQ W q h) {d : Dl} (hn : newOkQ W q b d = true) : newOk h b d = true ∧ HQ W (appDl W q b d) (d.app h b) := by
  cases d with
  | same => exact ⟨rfl, H⟩
  | put n B => exact ⟨rfl, H.mod n.fam _⟩
  | new B =>
    simp only [newOkQ, Bool.and_eq_true] at hn
    exact ⟨by simp only [newOk]; rw [← H.1]; exact hn.1, H.add B hn.2⟩
  | grow n B =>
    simp only [newOkQ, Bool.and_eq_true] at hn
    exact ⟨by simp only [newOk]; rw [← H.1]; exact hn.1, (H.mod n.fam (Fam.kill n.idx)).add B ((in_mod _ _ _ _ _).trans hn.2)⟩
def drawOneQ (M : Md R) (P : Program) (D : SpecsQ R) (V W : Nat) (q : QH) (base B : Nat) (F : Tri AV) (o : Oper) (K : OcQ → Option R) : Option R :=
  match (kindOf P o : Kind R) with
  | .call c f => callQ D V W c f F q B fun v q' B' => K (.call v q q' B')
  | .op f => f M P V F (getQ W q) base (fun v => K (.val v .same)) fun v d => bif newOkQ W q base d then K (.val v d) else none
def drawOpQ (M : Md R) (P : Program) (D : SpecsQ R) (V W : Nat) (q : QH) (base B : Nat) (ops : Array Oper) (F : Tri AV) (o : Oper) (K : Tri AV → OcQ → Option R) : Option R :=
  match o.guard with
  | none => drawOneQ M P D V W q base B F o (K F)
  | some (j, want) => match (ops[j]?).bind (·.dst) with
    | some d => match getT .undef (path V d) F with
      | .bool t => M.cnd t
          (match want with
          | true => drawOneQ M P D V W q base B (tellF M V d true F) o (K (tellF M V d true F))
          | false => K (tellF M V d true F) .skip)
          (match want with
          | false => drawOneQ M P D V W q base B (tellF M V d false F) o (K (tellF M V d false F))
          | true => K (tellF M V d false F) .skip)
      | .tuple _ => K F .skip
      | _ => none
    | none => none
def seesQ (e : Operand → AV) (o : Oper) : OcQ → List Nm
  | .val _ _ => bif looks o.op then o.op.operands.toList.flatMap fun x => footA (e x) else []
  | _ => []
def drawLQ (M : Md R) (P : Program) (D : SpecsQ R) (V W : Nat) (ops : Array Oper) : List Oper → Nat → Tri AV → QH → Nat → List (OcQ × List Nm) → (Tri AV → QH → Nat → List (OcQ × List Nm) → Option R) → Option R
  | [], _, F, q, B, l, K => K F q B l
  | o :: rest, bi, F, q, B, l, K => drawOpQ M P D V W q bi B ops F o fun F x => hdN true (Nat.succ bi) fun bi' => drawLQ M P D V W ops rest bi' (putQ V F o.dst x.v) (x.app W q bi) (x.nb.getD B) (l ++ [(x, seesQ (evF V F) o x)]) K
def effQ (W : Nat) (base : Nat) (x : OcQ) (k : Nm) : Option (Option Blk) :=
  match x with
  | .skip => none
  | .val _ d => d.eff base k
  | .call _ q0 q _ => match getQ W q0 k, getQ W q k with
    | some B0, some B1 => bif Nat.beq B0.st B1.st then none else some (some B1)
    | none, none => none
    | _, y => some y
def OcQ.wr : OcQ → List Nm
  | .val _ d => d.wr
  | _ => []
def freeOfQ (W : Nat) (base : Nat) (x : OcQ) (l : List Nm) : Bool := l.all fun n => (effQ W base x n).isNone
def OcQ.still (x : OcQ) : Bool :=
  match x with
  | .skip => true
  | .val _ .same => true
  | _ => false
def OcQ.fresh (W : Nat) (x : OcQ) (b : Nat) (q0 q : QH) : Bool :=
  match x with
  | .val _ (.new _) => (getT none (path W b) q0).isNone && (getT none (path W b) q).isNone
  | _ => false
def pairOkQ (W : Nat) (bi bj : Nat) (xi : OcQ) (li : List Nm) (xj : OcQ) (lj : List Nm) : Bool :=
  match xi, xj with
  | .call v h0 h B, xj => (xj.still || xj.fresh W bj h0 h) && freeOfQ W bi (.call v h0 h B) lj
  | xi, .call v h0 h B => xi.still && freeOfQ W bj (.call v h0 h B) li
  | xi, xj => freeOfQ W bi xi (lj ++ xj.wr) && freeOfQ W bj xj (li ++ xi.wr)
def dynOkQ (W : Nat) (b0 : Nat) (F : List (OcQ × List Nm)) (l : List (Nat × Nat)) : Bool := l.all fun p => match F[p.2]?, F[p.1]? with
  | some (xi, li), some (xj, lj) => pairOkQ W (b0 + p.2) (b0 + p.1) xi li xj lj
  | _, _ => false
theorem eff_ref {base : Nat} {x : OcQ} {y : Oc} (hr : OcR W x y) : effQ W base x = y.eff base := by
  funext k
  cases hr with
  | skip => rfl
  | val v d => rfl
  | call v B H0 H =>
    simp only [effQ, Oc.eff, H0.get, H.get]
    cases get _ k <;> cases get _ k <;> rfl
theorem free_ref {base : Nat} {x : OcQ} {y : Oc} (hr : OcR W x y) (l : List Nm) : freeOfQ W base x l = freeOf base y l := by
  unfold freeOfQ freeOf
  rw [eff_ref hr]
theorem still_ref {x : OcQ} {y : Oc} (hr : OcR W x y) : x.still = y.still := by
  cases hr with
  | val v d => cases d <;> rfl
  | _ => rfl
theorem fresh_ref {x : OcQ} {y : Oc} (hr : OcR W x y) {b : Nat} {q0 q : QH} {h0 h : Heap} (H0 : HQ W q0 h0) (H : HQ W q h) : x.fresh W b q0 q = y.fresh b h0 h := by
  cases hr with
  | val v d => cases d <;> first | rfl | (simp only [OcQ.fresh, Oc.fresh, H0.1, H.1])
  | _ => rfl
theorem and_congr2 {a b c d : Bool} (h : a = b) (k : c = d) : (a && c) = (b && d) := by rw [h, k]
theorem pair_ref {bi bj : Nat} {xi xj : OcQ} {yi yj : Oc} {li lj : List Nm} (hi : OcR W xi yi) (hj : OcR W xj yj) : pairOkQ W bi bj xi li xj lj = pairOk bi bj yi li yj lj := by
  cases hi with
  | call v B H0 H => exact and_congr2 (by rw [still_ref hj, fresh_ref hj H0 H]) (free_ref (.call v B H0 H) lj)
  | skip =>
    cases hj with
    | call v B H0 H => exact and_congr2 (still_ref (W := W) .skip) (free_ref (.call v B H0 H) li)
    | skip => rfl
    | val v d => exact and_congr2 rfl (free_ref (.val v d) _)
  | val v d =>
    cases hj with
    | call v' B H0 H => exact and_congr2 (still_ref (W := W) (.val v d)) (free_ref (.call v' B H0 H) li)
    | skip => exact and_congr2 (free_ref (.val v d) _) rfl
    | val v' d' => exact and_congr2 (free_ref (.val v d) _) (free_ref (.val v' d') _)
def ZR (W : Nat) (l : List (OcQ × List Nm)) (l' : List (Oc × List Nm)) : Prop := l.length = l'.length ∧ ∀ (i : Nat) (x : OcQ) (n : List Nm), l[i]? = some (x, n) → ∃ y, l'[i]? = some (y, n) ∧ OcR W x y
theorem ZR.nil : ZR W [] [] := ⟨rfl, fun i x n h => by simp at h⟩
theorem ZR.snoc {l : List (OcQ × List Nm)} {l' : List (Oc × List Nm)} (h : ZR W l l') {x : OcQ} {y : Oc} {n : List Nm} (hx : OcR W x y) : ZR W (l ++ [(x, n)]) (l' ++ [(y, n)]) := by
  refine ⟨by simp [h.1], fun i x' n' e => ?_⟩
  by_cases hi : i < l.length
  · rw [List.getElem?_append_left hi] at e
    obtain ⟨y', e1, e2⟩ := h.2 i x' n' e
    exact ⟨y', by rw [List.getElem?_append_left (h.1 ▸ hi)]; exact e1, e2⟩
  · have hl : i = l.length := by
      have := (List.getElem?_eq_some_iff.1 e).1
      simp at this; omega
    subst hl
    simp at e
    obtain ⟨e1, e2⟩ := e
    subst e1; subst e2
    exact ⟨y, by rw [h.1]; simp, hx⟩
theorem dyn_ref {b0 : Nat} {l : List (OcQ × List Nm)} {l' : List (Oc × List Nm)} (h : ZR W l l') (L : List (Nat × Nat)) (hk : dynOkQ W b0 l L = true) : dynOk b0 l' L = true := by
  unfold dynOkQ at hk
  unfold dynOk
  rw [List.all_eq_true] at hk ⊢
  intro p hp
  have := hk p hp
  split at this
  · rename_i xi li xj lj e1 e2
    obtain ⟨yi, f1, r1⟩ := h.2 _ _ _ e1
    obtain ⟨yj, f2, r2⟩ := h.2 _ _ _ e2
    simp only [f1, f2]
    rw [← pair_ref r1 r2]; exact this
  · cases this
theorem drawOne_ref (hD : RefD δ W r Dq D) (H : HQ W q h) (T : FR V F ts) {base B : Nat} {Kq : OcQ → Option Rq} {K : Oc → Option R} (hK : ∀ x y, OcR W x y → HQ W (x.app W q base) (y.app h base) → δ.den (Kq x) = some r → K y = some r)
    (hk : δ.den (drawOneQ M P Dq V W q base B F o Kq) = some r) : drawE P D h base B ts o K = some r := by
  unfold drawOneQ at hk
  unfold drawE
  have hko : KindOk P o (kindOf P o : Kind Rq) := kind_ok o
  split at hk
  · rename_i c f hkind
    rw [hkind] at hko
    have hc : callee o = some (c, f) := hko
    simp only [hc]
    exact call_ref hD H T (fun v q' h' b' H' hk' => hK _ (.call v h h' b') (.call v b' H H') H' hk') hk
  · rename_i f hkind
    rw [hkind] at hko
    obtain ⟨hc, hf⟩ := hko
    simp only [hc]
    obtain ⟨v, d, e1, hk⟩ := hf δ r V F ts (getQ W q) base (fun v => Kq (.val v .same)) (fun v d => bif newOkQ W q base d then Kq (.val v d) else none) T (fun v => rfl) hk
    rw [H.get] at e1
    rw [evD_nat, e1]
    cases hn : newOkQ W q base d with
    | false => simp only [hn, cond_false, δ.n0] at hk; cases hk
    | true =>
      simp only [hn, cond_true] at hk
      obtain ⟨h1, h2⟩ := newOk_ref H hn
      simp only [Option.bind_some, h1, cond_true]
      exact hK _ _ (.val v d) h2 hk
theorem drawOp_ref (hD : RefD δ W r Dq D) (H : HQ W q h) (T : FR V F ts) {base B : Nat} {ops : Array Oper} {Kq : Tri AV → OcQ → Option Rq} {K : List AV → Oc → Option R} (hK : ∀ F x y, FR V F ts → OcR W x y → HQ W (x.app W q base) (y.app h base) → δ.den (Kq F x) = some r → K ts y = some r)
    (hk : δ.den (drawOpQ M P Dq V W q base B ops F o Kq) = some r) : drawOp P D h base B ops ts o K = some r := by
  unfold drawOpQ at hk
  unfold drawOp
  have hop : ∀ F, FR V F ts → δ.den (drawOneQ M P Dq V W q base B F o (Kq F)) = some r → drawE P D h base B ts o (fun x => K ts x) = some r := fun F T hk => drawOne_ref hD H T (fun x y => hK F x y T) hk
  have hsk : ∀ F, FR V F ts → δ.den (Kq F .skip) = some r → K ts .skip = some r := fun F T hk => hK F _ _ T .skip H hk
  split at hk
  · rename_i hg
    simp only [hg]
    exact hop F T hk
  · rename_i j want hg
    simp only [hg]
    split at hk
    · rename_i d hd
      simp only [hd]
      rw [(T.2 d).1] at hk
      split at hk
      · rename_i t ht
        simp only [ht]
        rw [δ.cn] at hk
        have T' := tellF_ref (M := M) T ht
        cases t <;> cases want <;> simp only [cond_true, cond_false, putAt_same _ _ _ ht] at hk ⊢ <;> first | exact hop _ T' hk | exact hsk _ T' hk
      · rename_i cs ht
        simp only [ht]
        exact hsk _ T hk
      · rw [δ.n0] at hk; cases hk
    · rw [δ.n0] at hk; cases hk
theorem sees_ref (T : FR V F ts) {x : OcQ} {y : Oc} (hr : OcR W x y) : seesQ (evF V F) o x = sees ts o y := by
  rw [T.ev]
  cases hr <;> rfl
theorem drawL_ref (hD : RefD δ W r Dq D) {ops : Array Oper} {b0 : Nat} {Kq : Tri AV → QH → Nat → List (OcQ × List Nm) → Option Rq} {K : List AV → Heap → Nat → List (Oc × List Nm) → Option R}
    (hK : ∀ F ts q h B l l', FR V F ts → HQ W q h → ZR W l l' → δ.den (Kq F q B l) = some r → K ts h B l' = some r) :
    ∀ (L : List Oper) (i : Nat) (F : Tri AV) (ts : List AV) (q : QH) (h : Heap) (B : Nat) (l : List (OcQ × List Nm)) (l' : List (Oc × List Nm)), FR V F ts → HQ W q h → ZR W l l' → δ.den (drawLQ M P Dq V W ops L (b0 + i) F q B l Kq) = some r → drawL P D ops b0 L i ts h B l' K = some r := by
  intro L
  induction L with
  | nil => intro i F ts q h B l l' T H hl hk; exact hK _ _ _ _ _ _ _ T H hl hk
  | cons o L ih =>
    intro i F ts q h B l l' T H hl hk
    simp only [drawLQ, hdN_eq] at hk
    simp only [drawL]
    refine drawOp_ref hD H T (fun F x y T hxy hq hk' => ?_) hk
    have hv : x.v = y.v := by cases hxy <;> rfl
    have hb : x.nb = y.nb := by cases hxy <;> rfl
    rw [sees_ref T hxy] at hk'
    have := ih (i + 1) _ _ _ _ _ _ (l' ++ [(y, sees ts o y)]) (T.putD o.dst x.v) hq (hl.snoc hxy) hk'
    rw [← hv, ← hb]
    exact this

/-! ### Code -/
abbrev CQ (R : Type) := Tri AV → QH → Nat → (Ex → Tri AV → QH → Nat → Option R) → Option R
def qSkip : CQ R := fun F q b K => K .normal F q b
def qRegion (M : Md R) (P : Program) (D : SpecsQ R) (V W : Nat) (ops : Array Oper) (draw : Bool) : CQ R := fun F q b K =>
  bif draw then (bif P.follows .mixedOrders then hdN true (Nat.add b ops.size) fun B => drawLQ M P D V W ops ops.toList b F q B [] (fun F q B l => bif statOk ops && dynOkQ W b l (unord ops) then K .normal F q B else none) else none)
  else runQ M P D V W ops ops.toList F q b (K .normal)
def qSeqK (y : CQ R) (K : Ex → Tri AV → QH → Nat → Option R) : Ex → Tri AV → QH → Nat → Option R := fun e F q b => match e with
  | .normal => y F q b K
  | .exit i => K (.exit i) F q b
  | .ret => K .ret F q b
def qSeq (x y : CQ R) : CQ R := fun F q b K => x F q b (qSeqK y K)
def qCond (M : Md R) (V : Nat) (c : Operand) (x y : CQ R) : CQ R := fun F q b K => asBool ((boxA V c).f F) fun t => M.cnd t (x (tellC M V c true F) q b K) (y (tellC M V c false F) q b K)
def qBlock (id : Nat) (x : CQ R) : CQ R := fun F q b K => x F q b fun e F q b => match e with
  | .normal => K .normal F q b
  | .exit i => bif Nat.beq i id then K .normal F q b else K (.exit i) F q b
  | .ret => K .ret F q b
def qLoop (x : CQ R) : Nat → CQ R
  | 0 => fun _ _ _ _ => none
  | n + 1 => fun F q b K => x F q b fun e F q b => match e with
    | .normal => qLoop x n F q b K
    | .exit i => K (.exit i) F q b
    | .ret => K .ret F q b
def qExit (id : Nat) : CQ R := fun F q b K => K (.exit id) F q b
def qRet : CQ R := fun F q b K => K .ret F q b
def qNone : CQ R := fun _ _ _ _ => none
def qv (M : Md R) (P : Program) (D : SpecsQ R) (n V W : Nat) (c : Code) : CQ R :=
  Code.rec (motive := fun _ => CQ R) qSkip (fun _ ops draw => qRegion M P D V W ops draw) (fun _ _ x y => qSeq x y) (fun c _ _ x y => qCond M V c x y) (fun id _ x => qBlock id x) (fun _ x => qLoop x n)
    (fun _ _ _ _ _ _ => qNone) (fun id => qExit id) (fun _ _ => qNone) (fun _ => qSkip) (fun _ => qNone) qRet (fun _ => qNone) c
def XRel (δ : Dn M R) (V W : Nat) (r : R) (Kq : Ex → Tri AV → QH → Nat → Option Rq) (K : KX R) : Prop := ∀ e F ts q h b, FR V F ts → HQ W q h → δ.den (Kq e F q b) = some r → K e ts h b = some r
theorem tell_same {c : Operand} {t : Bool} {ts : List AV} (h : evA ts c = .bool t) : tell c t ts = ts := by
  cases c with
  | tmp d => exact putAt_same _ _ _ h
  | _ => rfl
theorem qv_ref (hD : RefD δ W r Dq D) (n : Nat) : ∀ (c : Code) (F : Tri AV) (ts : List AV) (q : QH) (h : Heap) (b : Nat) (Kq : Ex → Tri AV → QH → Nat → Option Rq) (K : KX R), FR V F ts → HQ W q h → XRel δ V W r Kq K → δ.den (qv M P Dq n V W c F q b Kq) = some r → ev P D n [] c ts h b K = some r := by
  intro c
  induction c with
  | skip => intro F ts q h b Kq K T H hK hk; simp only [ev]; exact hK _ _ _ _ _ _ T H hk
  | label l => intro F ts q h b Kq K T H hK hk; simp only [ev]; exact hK _ _ _ _ _ _ T H hk
  | exit id => intro F ts q h b Kq K T H hK hk; simp only [ev]; exact hK _ _ _ _ _ _ T H hk
  | ret => intro F ts q h b Kq K T H hK hk; simp only [ev]; exact hK _ _ _ _ _ _ T H hk
  | region id ops draw =>
    intro F ts q h b Kq K T H hK hk
    simp only [ev]
    change δ.den (qRegion M P Dq V W ops draw F q b Kq) = some r at hk
    unfold qRegion at hk
    cases draw with
    | false =>
      simp only [cond_false] at hk ⊢
      exact run_ref hD (Kq := Kq .normal) (fun F ts q h b T H hk => hK _ _ _ _ _ _ T H hk) _ _ _ _ _ _ T H hk
    | true =>
      simp only [cond_true] at hk ⊢
      cases hp : P.follows .mixedOrders with
      | false => simp only [hp, cond_false, δ.n0] at hk; cases hk
      | true =>
        simp only [hp, cond_true, hdN_eq] at hk ⊢
        refine drawL_ref (b0 := b) hD (fun F ts q h B l l' T H hl hk => ?_) _ 0 _ _ _ _ _ _ _ T H ZR.nil hk
        cases hs : statOk ops && dynOkQ W b l (unord ops) with
        | false => simp only [hs, cond_false, δ.n0] at hk; cases hk
        | true =>
          simp only [hs, cond_true] at hk
          rw [Bool.and_eq_true] at hs
          have : drawOk ops b l' = true := by
            unfold drawOk
            rw [Bool.and_eq_true]
            exact ⟨hs.1, dyn_ref hl _ hs.2⟩
          rw [this]
          exact hK _ _ _ _ _ _ T H hk
  | seq x y ihx ihy =>
    intro F ts q h b Kq K T H hK hk
    simp only [ev]
    refine ihx _ _ _ _ _ _ _ T H (fun e F ts q h b T H hk => ?_) hk
    cases e with
    | normal => exact ihy _ _ _ _ _ _ _ T H hK hk
    | exit i => exact hK _ _ _ _ _ _ T H hk
    | ret => exact hK _ _ _ _ _ _ T H hk
  | cond c x y ihx ihy =>
    intro F ts q h b Kq K T H hK hk
    simp only [ev]
    change δ.den (qCond M V c _ _ F q b Kq) = some r at hk
    unfold qCond at hk
    obtain ⟨t, ht, hk⟩ := asBool_some hk
    rw [ev_def, T.ev] at ht
    simp only [ht]
    rw [δ.cn] at hk
    have T' : FR V (tellC M V c t F) ts := by
      cases c with
      | tmp d => exact tellF_ref T ht
      | _ => exact T
    cases t with
    | true => rw [tell_same ht]; exact ihx _ _ _ _ _ _ _ T' H hK hk
    | false => rw [tell_same ht]; exact ihy _ _ _ _ _ _ _ T' H hK hk
  | block id x ih =>
    intro F ts q h b Kq K T H hK hk
    simp only [ev]
    refine ih _ _ _ _ _ _ _ T H (fun e F ts q h b T H hk => ?_) hk
    cases e with
    | normal => exact hK _ _ _ _ _ _ T H hk
    | exit i =>
      simp only [blockK]
      cases hi : Nat.beq i id with
      | true => simp only [hi, cond_true] at hk ⊢; exact hK _ _ _ _ _ _ T H hk
      | false => simp only [hi, cond_false] at hk ⊢; exact hK _ _ _ _ _ _ T H hk
    | ret => exact hK _ _ _ _ _ _ T H hk
  | loop x ih =>
    intro F ts q h b Kq K T H hK hk
    simp only [ev, look]
    change δ.den (qLoop (qv M P Dq n V W x) n F q b Kq) = some r at hk
    have : ∀ (k : Nat) (F : Tri AV) (ts : List AV) (q : QH) (h : Heap) (b : Nat), FR V F ts → HQ W q h → δ.den (qLoop (qv M P Dq n V W x) k F q b Kq) = some r → loopE (ev P D n [] x) [] k ts h b K = some r := by
      intro k
      induction k with
      | zero => intro F ts q h b T H hk; change δ.den none = some r at hk; rw [δ.n0] at hk; cases hk
      | succ k ihk =>
        intro F ts q h b T H hk
        simp only [loopE, hd_eq, clearAll]
        refine ih _ _ _ _ _ _ _ T H (fun e F ts q h b T H hk => ?_) hk
        cases e with
        | normal => exact ihk _ _ _ _ _ T H hk
        | exit i => exact hK _ _ _ _ _ _ T H hk
        | ret => exact hK _ _ _ _ _ _ T H hk
    exact this n _ _ _ _ _ T H hk
  | _ => intro F ts q h b Kq K T H hK hk; change δ.den none = some r at hk; rw [δ.n0] at hk; cases hk

/-! ### Functions -/
def resQ (V : Nat) : List ResultVar → Tri AV → Option (List AV)
  | [], _ => some []
  | .tmp t :: l, F => match resQ V l F with
    | some vs => some (getT .undef (path V t) F :: vs)
    | none => none
  | _, _ => none
theorem res_ref (T : FR V F ts) : ∀ l : List ResultVar, resQ V l F = resE l ts := by
  intro l
  induction l with
  | nil => rfl
  | cons x l ih =>
    cases x with
    | tmp t => simp only [resQ, resE, ih, (T.2 t).1]; cases resE l ts <;> rfl
    | cell q t => rfl
def vOf (n : Nat) : Nat := bif Nat.ble n 64 then 3 else bif Nat.ble n 256 then 4 else 6
def fnQ (M : Md R) (P : Program) (D : SpecsQ R) (n W : Nat) (fn : Func) : SpecQ R := fun q b args K =>
  match fn.body with
  | some c => hdN true (vOf fn.ntmps) fun V => bif Nat.ble args.length fn.ntmps && Nat.ble fn.ntmps (Nat.pow 4 V) && Nat.ble 1 V then
      qv M P D n V W c (putArgs V 0 args (mkT (.tuple []) V fn.ntmps)) q b fun e F q b => match e with
        | .exit _ => none
        | _ => match resQ V fn.results.toList F with
          | some vs => K (one vs) q b
          | none => none
    else none
  | none => none
theorem fn_ref (hD : RefD δ W r Dq D) (n : Nat) (fn : Func) : RefS δ W r (fnQ M P Dq n W fn) (evFn P D n [] fn) := by
  intro q h b args Kq K H hK hk
  unfold fnQ at hk
  unfold evFn
  cases hb : fn.body with
  | none => simp only [hb, δ.n0] at hk; cases hk
  | some c =>
    simp only [hb, hdN_eq] at hk
    simp only [hd_eq]
    generalize vOf fn.ntmps = V at hk
    cases hc : Nat.ble args.length fn.ntmps && Nat.ble fn.ntmps (Nat.pow 4 V) && Nat.ble 1 V with
    | false => simp only [hc, cond_false, δ.n0] at hk; cases hk
    | true =>
      simp only [hc, cond_true] at hk
      simp only [Bool.and_eq_true] at hc
      have h1 := Nat.le_of_ble_eq_true hc.1.1
      have h2 := Nat.le_of_ble_eq_true hc.1.2
      have h3 := Nat.le_of_ble_eq_true hc.2
      have T := FR.args args 0 (mkT (.tuple []) V fn.ntmps) [] fn.ntmps rfl h1 (FR.mk h3 h2)
      refine qv_ref hD n c _ _ _ _ _ _ _ T H (fun e F ts q h b T H hk => ?_) hk
      cases e with
      | exit i => simp only [δ.n0] at hk; cases hk
      | normal =>
        simp only [res_ref T] at hk ⊢
        split at hk
        · rename_i vs hv; simp only [hv]; exact hK _ _ _ _ H hk
        · rw [δ.n0] at hk; cases hk
      | ret =>
        simp only [res_ref T] at hk ⊢
        split at hk
        · rename_i vs hv; simp only [hv]; exact hK _ _ _ _ H hk
        · rw [δ.n0] at hk; cases hk
/-! ### A deferred call, and results in variables -/
def qTop (M : Md R) (P : Program) (D : SpecsQ R) (n V W : Nat) : Code → Tri AV → QH → Nat → (Pd → Ex → Tri AV → QH → Nat → Option R) → Option R
  | .seq x y, F, q, b, K => qTop M P D n V W x F q b fun p e F q b => match e with
    | .normal => (match p with
      | none => qTop M P D n V W y F q b K
      | some z => qv M P D n V W y F q b (K (some z)))
    | .exit i => K p (.exit i) F q b
    | .ret => K p .ret F q b
  | .region id ops draw, F, q, b, K => match draw, defOf ops.toList with
    | false, some (d, f, caps, d2) => bif inT (path V d) F then K (some (f, caps.map (evF V F))) .normal (putQ V (putQ V F (some d) .undef) d2 .undef) q b else none
    | _, _ => qv M P D n V W (.region id ops draw) F q b (K none)
  | c, F, q, b, K => qv M P D n V W c F q b (K none)
def TRel (δ : Dn M R) (V W : Nat) (r : R) (Kq : Pd → Ex → Tri AV → QH → Nat → Option Rq) (K : Pd → KX R) : Prop := ∀ p, XRel δ V W r (Kq p) (K p)
theorem top_ref (hD : RefD δ W r Dq D) (n : Nat) : ∀ (c : Code) (F : Tri AV) (ts : List AV) (q : QH) (h : Heap) (b : Nat) (Kq : Pd → Ex → Tri AV → QH → Nat → Option Rq) (K : Pd → KX R), FR V F ts → HQ W q h → TRel δ V W r Kq K → δ.den (qTop M P Dq n V W c F q b Kq) = some r → evTop P D n c ts h b K = some r := by
  intro c
  induction c with
  | seq x y ihx ihy =>
    intro F ts q h b Kq K T H hK hk
    simp only [evTop]
    simp only [qTop] at hk
    refine ihx _ _ _ _ _ _ _ T H (fun p e F ts q h b T H hk => ?_) hk
    cases e with
    | normal =>
      cases p with
      | none => exact ihy _ _ _ _ _ _ _ T H hK hk
      | some z => exact qv_ref hD n y _ _ _ _ _ _ _ T H (hK (some z)) hk
    | exit i => exact hK p _ _ _ _ _ _ T H hk
    | ret => exact hK p _ _ _ _ _ _ T H hk
  | region id ops draw =>
    intro F ts q h b Kq K T H hK hk
    simp only [evTop]
    simp only [qTop] at hk
    split at hk
    · rename_i d f caps d2 hdef
      simp only [hdef]
      cases hl : inT (path V d) F with
      | false => rw [hl] at hk; simp only [cond_false, δ.n0] at hk; cases hk
      | true =>
        rw [hl] at hk
        simp only [cond_true] at hk
        have hlt : Nat.blt d ts.length = true := by
          rw [(T.2 d).2] at hl
          simpa using hl
        rw [hlt]
        rw [T.ev] at hk
        exact hK _ _ _ _ _ _ _ ((T.putD (some d) .undef).putD d2 .undef) H hk
    · rename_i h1
      have hev := qv_ref hD n _ _ _ _ _ _ _ _ T H (hK none) hk
      split
      · rename_i d f caps d2 hdef
        exact absurd hdef (h1 d f caps d2 rfl)
      · exact hev
  | _ => intro F ts q h b Kq K T H hK hk; simp only [evTop]; simp only [qTop] at hk; exact qv_ref hD n _ _ _ _ _ _ _ _ T H (hK none) hk
def resCQ (P : Program) (g : Gt) (V : Nat) : List ResultVar → Tri AV → Option (List AV)
  | [], _ => some []
  | .tmp t :: l, F => match resCQ P g V l F with
    | some vs => some (getT .undef (path V t) F :: vs)
    | none => none
  | .cell q t :: l, F => match getT .undef (path V q) F with
    | .ptr (some p) => match loadE P g t p some with
      | some v => match resCQ P g V l F with
        | some vs => some (v :: vs)
        | none => none
      | none => none
    | _ => none
theorem resC_ref (T : FR V F ts) (g : Gt) : ∀ l : List ResultVar, resCQ P g V l F = resC P g l ts := by
  intro l
  induction l with
  | nil => rfl
  | cons x l ih =>
    cases x with
    | tmp t => simp only [resCQ, resC, ih, (T.2 t).1]; cases resC P g l ts <;> rfl
    | cell q t =>
      simp only [resCQ, resC, ih, (T.2 q).1]
      cases nth ts q with
      | ptr a =>
        cases a with
        | none => rfl
        | some p =>
          simp only
          cases loadE P g t p some with
          | none => rfl
          | some v => cases resC P g l ts <;> rfl
      | _ => rfl
def runDefQ (M : Md R) (P : Program) (D : SpecsQ R) (n W : Nat) (p : Pd) (q : QH) (b : Nat) (k : QH → Nat → Option R) : Option R :=
  match p with
  | none => k q b
  | some (f, cs) => match P.funcs[f]? with
    | some fd => bif !fd.body.isNone && !(fd.name == "runtime.NumGoroutine") then fnQ M P D n W fd q b cs (fun _ q' b' => k q' b') else none
    | none => none
theorem def_ref (hD : RefD δ W r Dq D) (n : Nat) (p : Pd) {kq : QH → Nat → Option Rq} {k : Heap → Nat → Option R} (H : HQ W q h) (hK : ∀ q h b, HQ W q h → δ.den (kq q b) = some r → k h b = some r) (hk : δ.den (runDefQ M P Dq n W p q b kq) = some r) : runDef P D n p h b k = some r := by
  unfold runDefQ at hk
  unfold runDef
  split at hk
  · exact hK _ _ _ H hk
  · rename_i f cs
    simp only
    split at hk
    · rename_i fd hf
      simp only [hf]
      cases hb : (!fd.body.isNone && !(fd.name == "runtime.NumGoroutine")) with
      | false => simp only [hb, cond_false, δ.n0] at hk; cases hk
      | true =>
        simp only [hb, cond_true] at hk ⊢
        exact fn_ref hD n fd _ _ _ _ _ _ H (fun v q h b H hk => hK _ _ _ H hk) hk
    · rw [δ.n0] at hk; cases hk
def fnTQ (M : Md R) (P : Program) (D : SpecsQ R) (n W : Nat) (fn : Func) : SpecQ R := fun q b args K =>
  match fn.body with
  | some c => hdN true (vOf fn.ntmps) fun V => bif Nat.ble args.length fn.ntmps && Nat.ble fn.ntmps (Nat.pow 4 V) && Nat.ble 1 V then
      qTop M P D n V W c (putArgs V 0 args (mkT (.tuple []) V fn.ntmps)) q b fun p e F q b => match e with
        | .exit _ => none
        | _ => runDefQ M P D n W p q b fun q2 b2 => match resCQ P (getQ W q2) V fn.results.toList F with
          | some vs => K (one vs) q2 b2
          | none => none
    else none
  | none => none
theorem fnT_ref (hD : RefD δ W r Dq D) (n : Nat) (fn : Func) : RefS δ W r (fnTQ M P Dq n W fn) (evFnT P D n fn) := by
  intro q h b args Kq K H hK hk
  unfold fnTQ at hk
  unfold evFnT
  cases hb : fn.body with
  | none => simp only [hb, δ.n0] at hk; cases hk
  | some c =>
    simp only [hb, hdN_eq] at hk
    generalize vOf fn.ntmps = V at hk
    cases hc : Nat.ble args.length fn.ntmps && Nat.ble fn.ntmps (Nat.pow 4 V) && Nat.ble 1 V with
    | false => simp only [hc, cond_false, δ.n0] at hk; cases hk
    | true =>
      simp only [hc, cond_true] at hk
      simp only [Bool.and_eq_true] at hc
      have h1 := Nat.le_of_ble_eq_true hc.1.1
      have h2 := Nat.le_of_ble_eq_true hc.1.2
      have h3 := Nat.le_of_ble_eq_true hc.2
      have T := FR.args args 0 (mkT (.tuple []) V fn.ntmps) [] fn.ntmps rfl h1 (FR.mk h3 h2)
      refine top_ref hD n c _ _ _ _ _ _ _ T H (fun p e F ts q h b T H hk => ?_) hk
      have main : δ.den (runDefQ M P Dq n W p q b fun q2 b2 => match resCQ P (getQ W q2) V fn.results.toList F with | some vs => Kq (one vs) q2 b2 | none => none) = some r → (runDef P D n p h b fun h2 b2 => match resC P (get h2) fn.results.toList ts with | some vs => K (one vs) h2 b2 | none => none) = some r := by
        intro hk
        refine def_ref hD n p H (fun q2 h2 b2 H2 hk => ?_) hk
        rw [resC_ref T, H2.get] at hk
        split at hk
        · rename_i vs hv
          exact hK _ _ _ _ H2 hk
        · rw [δ.n0] at hk; cases hk
      cases e with
      | exit i => change δ.den none = some r at hk; rw [δ.n0] at hk; cases hk
      | normal => exact main hk
      | ret => exact main hk
def anyQ (M : Md R) (P : Program) (D : SpecsQ R) (n W : Nat) (fn : Func) : SpecQ R :=
  match special fn with
  | true => fnTQ M P D n W fn
  | false => fnQ M P D n W fn
theorem any_ref (hD : RefD δ W r Dq D) (n : Nat) (fn : Func) : RefS δ W r (anyQ M P Dq n W fn) (evAny P D n fn) := by
  cases hs : special fn with
  | true => simp only [anyQ, evAny, hs]; exact fnT_ref hD n fn
  | false => simp only [anyQ, evAny, hs]; exact fn_ref hD n fn
def DQ (M : Md R) (P : Program) (N W : Nat) (ok : List FuncId) : Nat → SpecsQ R
  | 0 => fun _ => none
  | n + 1 => fun f => sel (ok.any (Nat.beq f)) (match P.funcs[f]? with
    | some fn => some (anyQ M P (DQ M P N W ok n) N W fn)
    | none => none) none
theorem DQ_ref {N : Nat} {ok : List FuncId} : ∀ n, RefD δ W r (DQ M P N W ok n) (DD P N ok (fun _ => none) n) := by
  intro n
  induction n with
  | zero => intro f sq h; cases h
  | succ n ih =>
    intro f sq h
    simp only [DQ, sel_eq] at h
    cases hb : ok.any (Nat.beq f) with
    | false => rw [hb] at h; cases h
    | true =>
      rw [hb] at h
      simp only [cond_true] at h
      split at h
      · rename_i fn hf
        cases h
        exact ⟨_, by simp only [DD, sel_eq, hb, cond_true, hf], any_ref ih N fn⟩
      · cases h
/-- Closed runs: a choice is made at once. -/
def mC : Md R := ⟨fun t x y => bif t then x else y, false⟩
def dC : Dn (mC (R := R)) R := ⟨fun x => x, rfl, fun t x y => rfl⟩
/-- A closed call without arguments comes to a truth. -/
def quick (P : Program) (N W : Nat) (ok : List FuncId) (n : Nat) (f : FuncId) : Option AV :=
  match DQ mC P N W ok n f with
  | some s => s (mkT none W (Nat.pow 4 W)) 0 [] fun v _ _ => some v
  | none => none
theorem quick_truth {N W n f : Nat} {ok : List FuncId} {b : Bool} (hok : okAll P ok = true) (hW : 0 < W) (h : quick P N W ok n f = some (.bool b)) : SoundSpec P f (truth b : Spec R) := by
  unfold quick at h
  split at h
  · rename_i sq hs
    obtain ⟨s, h1, h2⟩ := DQ_ref (δ := dC) (r := AV.bool b) n f sq hs
    exact truth_sound (DD_spec hok none_sound rfl h1) (h2 _ _ _ _ _ _ (HQ.empty hW) (fun v q h b _ hk => hk) h)
  · cases h
/-- The same as a truth by itself (the kernel reckons 'true = ..' by whnf alone). -/
def quickB (P : Program) (N W : Nat) (ok : List FuncId) (n : Nat) (f : FuncId) : Bool :=
  match quick P N W ok n f with
  | some (.bool b) => b
  | _ => false
theorem quick_true {N W n f : Nat} {ok : List FuncId} (hok : okAll P ok = true) (hW : 0 < W) (h : true = quickB P N W ok n f) : SoundSpec P f (truth true : Spec R) := by
  unfold quickB at h
  split at h
  · rename_i b e
    subst h
    exact quick_truth hok hW e
  · cases h
end
end Go.Proofs.YtipigcgegmedeaaGreat.Ev
