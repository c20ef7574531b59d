/- Quick runs with data not known, over a few blocks: contracts of calls and of loops. -/
import Derived.Test.YtipigcgegmedeaaGreatHb
namespace Go.Proofs.YtipigcgegmedeaaGreat.Ev
open Go Go.RowKit
set_option linter.unusedVariables false
set_option linter.unusedSimpArgs false
noncomputable section
variable {R : Type} {P : Program}

/-! ### Ways -/
inductive W3 (α : Type) where
  | nil
  | val (a : α)
  | br (t : Bool) (x y : W3 α)
def W3.ofO {α : Type} (x : Option (W3 α)) : W3 α :=
  match x with
  | some x => x
  | none => .nil
def W3.den {α : Type} : W3 α → Option α
  | .nil => none
  | .val v => some v
  | .br t x y => bif t then x.den else y.den
def m3 {α : Type} : Md (W3 α) := ⟨fun t x y => some (.br t (W3.ofO x) (W3.ofO y)), true⟩
def d3 {α : Type} : Dn (m3 : Md (W3 α)) α := ⟨fun x => (W3.ofO x).den, rfl, fun t x y => rfl⟩
/-- One way: (k, o): k choices tell themselves, the next one is o. What must be so (the last first), and the end. -/
def flw3 {α : Type} (X : W3 α) : List (Nat × Bool) → List Bool → Option (α × List Bool) :=
  W3.rec (motive := fun _ => List (Nat × Bool) → List Bool → Option (α × List Bool)) (fun _ _ => none) (fun v _ acc => some (v, acc))
    (fun t _ _ ihx ihy os acc => match os with
      | [] => (match t with
        | true => ihx [] acc
        | false => ihy [] acc)
      | (k, o) :: os => match k with
        | 0 => (match o with
          | true => ihx os (t :: acc)
          | false => ihy os ((bif t then false else true) :: acc))
        | k + 1 => (match t with
          | true => ihx ((k, o) :: os) acc
          | false => ihy ((k, o) :: os) acc)) X
theorem flw3_den {α : Type} : ∀ (X : W3 α) (os : List (Nat × Bool)) (acc : List Bool) (v : α) (l : List Bool), flw3 X os acc = some (v, l) → (∀ t ∈ l, t = true) → X.den = some v ∧ ∀ t ∈ acc, t = true := by
  intro X
  induction X with
  | nil => intro os acc v l h hl; cases h
  | val w =>
    intro os acc v l h hl
    have h : some (w, acc) = some (v, l) := h
    simp only [Option.some.injEq, Prod.mk.injEq] at h; obtain ⟨h1, h2⟩ := h; subst h1; subst h2; exact ⟨rfl, hl⟩
  | br t x y ihx ihy =>
    intro os acc v l h hl
    cases os with
    | nil =>
      cases t with
      | true => exact ihx [] acc v l h hl
      | false => exact ihy [] acc v l h hl
    | cons p os =>
      obtain ⟨k, o⟩ := p
      cases k with
      | zero =>
        cases o with
        | true =>
          obtain ⟨h1, h2⟩ := ihx os (t :: acc) v l h hl
          have : t = true := h2 t (by simp)
          subst this
          exact ⟨h1, fun u hu => h2 u (by simp [hu])⟩
        | false =>
          obtain ⟨h1, h2⟩ := ihy os ((bif t then false else true) :: acc) v l h hl
          have ht := h2 (bif t then false else true) (by simp)
          cases t with
          | true => cases ht
          | false => exact ⟨h1, fun u hu => h2 u (by simp [hu])⟩
      | succ k =>
        cases t with
        | true => exact ihx ((k, o) :: os) acc v l h hl
        | false => exact ihy ((k, o) :: os) acc v l h hl
/-- A way in another's choices. -/
def W3.run {α : Type} (M : Md R) (K : α → Option R) (X : W3 α) : Option R := W3.rec (motive := fun _ => Option R) none K (fun t _ _ x y => M.cnd t x y) X
theorem W3.run_den {α Rq : Type} {M : Md Rq} {δ : Dn M R} {r : R} {K : α → Option Rq} : ∀ (X : W3 α), δ.den (X.run M K) = some r → ∃ a, X.den = some a ∧ δ.den (K a) = some r := by
  intro X
  induction X with
  | nil => intro h; change δ.den none = some r at h; rw [δ.n0] at h; cases h
  | val a => intro h; exact ⟨a, rfl, h⟩
  | br t x y ihx ihy =>
    intro h
    change δ.den (M.cnd t (x.run M K) (y.run M K)) = some r at h
    rw [δ.cn] at h
    cases t with
    | true => exact ihx h
    | false => exact ihy h

/-! ### A store of a few blocks, as a tree -/
def famO (x : Option Blk) : Fam := match x with
  | some B => .one B
  | none => .gone
def qOf (W : Nat) : Nat → Blks → QH
  | _, [] => mkT none W (Nat.pow 4 W)
  | i, x :: t => putT (some (famO x)) (path W i) (qOf W (Nat.succ i) t)
theorem qOf_in (W : Nat) (p : List D4) : ∀ (Bs : Blks) (i : Nat), inT p (qOf W i Bs) = inT p (mkT none W (4 ^ W) : QH) := by
  intro Bs
  induction Bs with
  | nil => intro i; rfl
  | cons x t ih => intro i; simp only [qOf]; rw [in_put, ih]
theorem qOf_hq {W : Nat} (hW : 0 < W) : ∀ (Bs : Blks) (i : Nat), i + Bs.length ≤ 4 ^ W → HQ W (qOf W i Bs) (heapOf i Bs) := by
  intro Bs
  induction Bs with
  | nil => intro i _; exact HQ.empty hW
  | cons x t ih =>
    intro i hl
    have H := ih (i + 1) (by simp only [List.length_cons] at hl; omega)
    have e : heapOf i (x :: t) = (i, famO x) :: heapOf (i + 1) t := by cases x <;> rfl
    have hf : ∀ k, fam (heapOf i (x :: t)) k = if i = k then some (famO x) else fam (heapOf (i + 1) t) k := fun k => by rw [e]; simp only [fam, sel_eq, beq_cond]
    refine H.put i _ (fun _ => by rw [hf, if_pos rfl]) (fun h0 => ?_) fun k hk => by rw [hf, if_neg (Ne.symm hk)]
    exfalso
    rw [qOf_in] at h0
    have hi : i < 4 ^ W := by simp only [List.length_cons] at hl; omega
    have := mk_in (none : Option Fam) W (4 ^ W) i hi
    rw [h0] at this
    simp [hi] at this

/-! ### Calls by local contracts -/
def stQ (W : Nat) (q : QH) (n : Nm) : Nat := match getQ W q n with
  | some B => B.st
  | none => 0
def frOneQ (W : Nat) (ρ : Nat → Nm) (len : Nat) (q : QH) (n : Nm) (x : Option Blk) : QH := match x with
  | some B => modQ W n.fam (Fam.set n.idx (B.rn ρ len (Nat.succ (stQ W q n)))) q
  | none => modQ W n.fam (Fam.kill n.idx) q
def frSetQ (W : Nat) (ρ : Nat → Nm) (len : Nat) : List Nm → Blks → List Bool → QH → QH
  | n :: t, x :: xs, kp :: ks, q => frSetQ W ρ len t xs ks (bif kp then q else frOneQ W ρ len q n x)
  | _, _, _, q => q
theorem frSetQ_hq {W : Nat} (ρ : Nat → Nm) (len : Nat) : ∀ (l : List Nm) (xs : Blks) (ks : List Bool) (q : QH) (h : Heap), HQ W q h → HQ W (frSetQ W ρ len l xs ks q) (frSet ρ len l xs ks h) := by
  intro l
  induction l with
  | nil => intro xs ks q h H; exact H
  | cons n t ih =>
    intro xs ks q h H
    cases xs with
    | nil => exact H
    | cons x xs =>
      cases ks with
      | nil => exact H
      | cons kp ks =>
        simp only [frSetQ, frSet]
        refine ih _ _ _ _ ?_
        cases kp with
        | true => exact H
        | false =>
          simp only [cond_false]
          cases x with
          | none => exact H.mod n.fam _
          | some B =>
            have : stQ W q n = stOf h n := by unfold stQ stOf; rw [H.get]; rfl
            show HQ W (modQ W n.fam (Fam.set n.idx (B.rn ρ len (stQ W q n + 1))) q) _
            rw [this]
            exact H.mod n.fam _
def frameQ (M : Md R) (W : Nat) (gg : Gt → List AV → W3 Frm) : SpecQ R := fun q b args K =>
  (gg (getQ W q) args).run M fun r => newsQ W (r.news.map fun B => B.rn (r.rho b) r.len 0) (frSetQ W (r.rho b) r.len r.names r.olds r.keep q) b (K (rnA (r.rho b) r.len 3 r.v))
theorem frameQ_ref {Rq : Type} {M : Md Rq} {δ : Dn M R} {W : Nat} {r : R} (gg : Gt → List AV → W3 Frm) : RefS δ W r (frameQ M W gg) (frameS fun g args => (gg g args).den) := by
  intro q h b args Kq K H hK hk
  unfold frameQ at hk
  unfold frameS
  rw [H.get] at hk
  obtain ⟨a, h1, h2⟩ := W3.run_den _ hk
  simp only [h1]
  exact news_ref (frSetQ_hq _ _ _ _ _ _ _ H) (fun q h b H hk => hK _ _ _ _ H hk) h2

/-! ### What is known of functions -/
inductive En where
  | e (x : Ent)
  | frm (gg : Gt → List AV → W3 Frm)
abbrev Tb := List (FuncId × En)
def enQ (M : Md R) (W : Nat) : En → SpecQ R
  | .e x => entQ M W x
  | .frm gg => frameQ M W gg
def enS : En → Spec R
  | .e x => entS x
  | .frm gg => frameS fun g args => (gg g args).den
def BQs (M : Md R) (W : Nat) (T : Tb) : SpecsQ R := fun f => match T with
  | [] => none
  | (k, e) :: t => match Nat.beq f k with
    | true => some (enQ M W e)
    | false => BQs M W t f
def BSs (T : Tb) : Specs R := fun f => match T with
  | [] => none
  | (k, e) :: t => match Nat.beq f k with
    | true => some (enS e)
    | false => BSs t f
theorem tb_ref {Rq : Type} {M : Md Rq} {δ : Dn M R} {W : Nat} {r : R} : ∀ T : Tb, RefD δ W r (BQs M W T) (BSs T) := by
  intro T
  induction T with
  | nil => intro f sq h; cases h
  | cons p t ih =>
    intro f sq h
    obtain ⟨k, e⟩ := p
    simp only [BQs] at h
    simp only [BSs]
    cases hb : Nat.beq f k with
    | true =>
      simp only [hb, Option.some.injEq] at h
      subst h
      refine ⟨enS e, rfl, ?_⟩
      cases e with
      | e x =>
        cases x with
        | val g => exact pure_ref g
        | blk g => exact freshQ_ref g
        | hint k l => exact hint_ref k l
      | frm gg => exact frameQ_ref gg
    | false => simp only [hb] at h; exact ih f sq h
theorem tb_none {Rq : Type} {M : Md Rq} {W : Nat} : ∀ (T : Tb) (f : FuncId), (BQs M W T f : Option (SpecQ Rq)) = none → (BSs T f : Option (Spec R)) = none := by
  intro T
  induction T with
  | nil => intro f h; rfl
  | cons p t ih =>
    intro f h
    obtain ⟨k, e⟩ := p
    simp only [BQs] at h
    simp only [BSs]
    cases hb : Nat.beq f k with
    | true => simp only [hb] at h; cases h
    | false => simp only [hb] at h ⊢; exact ih f h
theorem tb_nil : Sound P (BSs [] : Specs R) := fun f s h => by cases h
theorem tb_cons {f : FuncId} {e : En} {T : Tb} (he : SoundSpec P f (enS e : Spec R) ∨ SoundX P f (enS e : Spec R)) (hT : Sound P (BSs T : Specs R)) : Sound P (BSs ((f, e) :: T) : Specs R) := by
  intro n s hs
  simp only [BSs] at hs
  cases hb : Nat.beq n f with
  | true =>
    simp only [hb, Option.some.injEq] at hs
    subst hs
    have := Nat.eq_of_beq_eq_true hb
    subst this
    exact he
  | false => simp only [hb] at hs; exact hT n s hs
theorem frm_sound {f : FuncId} {gg : Gt → List AV → W3 Frm} (hfn : ∃ fn, P.funcs[f]? = some fn ∧ fn.body.isNone = false ∧ (fn.name == "runtime.NumGoroutine") = false) (hg : ∀ g args q, (gg g args).den = some q → FrmOk P f g args q) : SoundSpec P f (enS (.frm gg) : Spec R) := frame_sound hfn hg

/-! ### Code with contracts of loops -/
abbrev LQs (R : Type) := Nat → Option (CQ R)
def qvX (M : Md R) (P : Program) (D : SpecsQ R) (n V W : Nat) (LQ : LQs R) (c : Code) : CQ R :=
  Code.rec (motive := fun _ => CQ R) qSkip (fun _ ops draw => qRegion M P D V W ops draw) (fun _ _ x y => qSeq x y) (fun c _ _ x y => qCond M V c x y) (fun id _ x => qBlock id x) (fun y x => match LQ (firstRegion y) with
    | some s => s
    | none => qLoop x n)
    (fun _ _ _ _ _ _ => qNone) (fun id => qExit id) (fun _ _ => qNone) (fun _ => qSkip) (fun _ => qNone) qRet (fun _ => qNone) c
variable {Rq : Type} {M : Md Rq} {δ : Dn M R} {D : Specs R} {Dq : SpecsQ Rq} {V W : Nat} {r : R}
def RefC (δ : Dn M R) (V W : Nat) (r : R) (sq : CQ Rq) (s : LSpec R) : Prop := ∀ F ts q h b Kq K, FR V F ts → HQ W q h → XRel δ V W r Kq K → δ.den (sq F q b Kq) = some r → s ts h b K = some r
def RefL (δ : Dn M R) (V W : Nat) (r : R) (LQ : LQs Rq) (LD : LSpecs R) : Prop := ∀ i, (∀ sq, LQ i = some sq → ∃ s, LD i = some s ∧ RefC δ V W r sq s) ∧ (LQ i = none → LD i = none)
theorem refL_none : RefL δ V W r (fun _ => none) (fun _ => none) := fun i => ⟨fun sq h => (by cases h), fun _ => rfl⟩
theorem qvX_ref {LQ : LQs Rq} {LD : LSpecs R} (hL : RefL δ V W r LQ LD) (hD : RefD δ W r Dq D) (n : Nat) : ∀ (c : Code) (F : Tri AV) (ts : List AV) (q : QH) (h : Heap) (b : Nat) (Kq : Ex → Tri AV → QH → Nat → Option Rq) (K : KX R), FR V F ts → HQ W q h → XRel δ V W r Kq K → δ.den (qvX M P Dq n V W LQ c F q b Kq) = some r → evX P D n LD c ts h b K = some r := by
  intro c
  induction c with
  | skip => intro F ts q h b Kq K T H hK hk; simp only [evX]; exact hK _ _ _ _ _ _ T H hk
  | label l => intro F ts q h b Kq K T H hK hk; simp only [evX]; exact hK _ _ _ _ _ _ T H hk
  | exit id => intro F ts q h b Kq K T H hK hk; simp only [evX]; exact hK _ _ _ _ _ _ T H hk
  | ret => intro F ts q h b Kq K T H hK hk; simp only [evX]; exact hK _ _ _ _ _ _ T H hk
  | region id ops draw =>
    intro F ts q h b Kq K T H hK hk
    have := qv_ref (M := M) (δ := δ) (P := P) hD n (.region id ops draw) F ts q h b Kq K T H hK hk
    simpa only [evX, ev] using this
  | seq x y ihx ihy =>
    intro F ts q h b Kq K T H hK hk
    simp only [evX]
    refine ihx _ _ _ _ _ _ _ T H (fun e F ts q h b T H hk => ?_) hk
    cases e with
    | normal => exact ihy _ _ _ _ _ _ _ T H hK hk
    | exit i => exact hK _ _ _ _ _ _ T H hk
    | ret => exact hK _ _ _ _ _ _ T H hk
  | cond c x y ihx ihy =>
    intro F ts q h b Kq K T H hK hk
    simp only [evX]
    change δ.den (qCond M V c _ _ F q b Kq) = some r at hk
    unfold qCond at hk
    obtain ⟨t, ht, hk⟩ := asBool_some hk
    rw [ev_def, T.ev] at ht
    simp only [ht]
    rw [δ.cn] at hk
    have T' : FR V (tellC M V c t F) ts := by
      cases c with
      | tmp d => exact tellF_ref T ht
      | _ => exact T
    cases t with
    | true => rw [tell_same ht]; exact ihx _ _ _ _ _ _ _ T' H hK hk
    | false => rw [tell_same ht]; exact ihy _ _ _ _ _ _ _ T' H hK hk
  | block id x ih =>
    intro F ts q h b Kq K T H hK hk
    simp only [evX]
    refine ih _ _ _ _ _ _ _ T H (fun e F ts q h b T H hk => ?_) hk
    cases e with
    | normal => exact hK _ _ _ _ _ _ T H hk
    | exit i =>
      simp only [blockK]
      cases hi : Nat.beq i id with
      | true => simp only [hi, cond_true] at hk ⊢; exact hK _ _ _ _ _ _ T H hk
      | false => simp only [hi, cond_false] at hk ⊢; exact hK _ _ _ _ _ _ T H hk
    | ret => exact hK _ _ _ _ _ _ T H hk
  | loop x ih =>
    intro F ts q h b Kq K T H hK hk
    simp only [evX]
    change δ.den ((match LQ (firstRegion x) with | some s => s | none => qLoop (qvX M P Dq n V W LQ x) n) F q b Kq) = some r at hk
    cases hl : LQ (firstRegion x) with
    | some sq =>
      rw [hl] at hk
      obtain ⟨s, h1, h2⟩ := (hL (firstRegion x)).1 sq hl
      rw [h1]
      exact h2 _ _ _ _ _ _ _ T H hK hk
    | none =>
      rw [hl] at hk
      rw [(hL (firstRegion x)).2 hl]
      simp only at hk ⊢
      have : ∀ (k : Nat) (F : Tri AV) (ts : List AV) (q : QH) (h : Heap) (b : Nat), FR V F ts → HQ W q h → δ.den (qLoop (qvX M P Dq n V W LQ x) k F q b Kq) = some r → loopE (evX P D n LD x) [] k ts h b K = some r := by
        intro k
        induction k with
        | zero => intro F ts q h b T H hk; change δ.den none = some r at hk; rw [δ.n0] at hk; cases hk
        | succ k ihk =>
          intro F ts q h b T H hk
          simp only [loopE, hd_eq, clearAll]
          refine ih _ _ _ _ _ _ _ T H (fun e F ts q h b T H hk => ?_) hk
          cases e with
          | normal => exact ihk _ _ _ _ _ T H hk
          | exit i => exact hK _ _ _ _ _ _ T H hk
          | ret => exact hK _ _ _ _ _ _ T H hk
      exact this n _ _ _ _ _ T H hk
  | _ => intro F ts q h b Kq K T H hK hk; change δ.den none = some r at hk; rw [δ.n0] at hk; cases hk
/-- A frame's slots. -/
def frameF (V : Nat) (ts : List AV) : Tri AV := putArgs V 0 ts (mkT (.tuple []) V ts.length)
theorem frameF_fr {ts : List AV} (hV : 0 < V) (hl : ts.length ≤ 4 ^ V) : FR V (frameF V ts) ts := by
  have := FR.args (W := V) ts 0 (mkT (.tuple []) V ts.length) [] ts.length rfl (Nat.le_refl _) (by simpa using FR.mk hV hl)
  unfold frameF
  simpa [fills] using this
def isLen (V N : Nat) (F : Tri AV) : Bool := inT (path V (N - 1)) F && (bif inT (path V N) F then false else true)
theorem isLen_eq {N : Nat} {F : Tri AV} {ts : List AV} (T : FR V F ts) (h : isLen V N F = true) : Nat.beq ts.length N = true := by
  unfold isLen at h
  rw [Bool.and_eq_true, (T.2 (N - 1)).2, (T.2 N).2] at h
  have h1 : N - 1 < ts.length := by simpa using h.1
  have h2 : ¬ N < ts.length := fun c => by simp [c] at h
  have : ts.length = N := by omega
  rw [this]; exact Nat.beq_refl N
theorem nths {F : Tri AV} {ts : List AV} (T : FR V F ts) (idx : List Nat) : idx.map (fun i => getT .undef (path V i) F) = idx.map (nth ts) := List.map_congr_left fun i _ => (T.2 i).1
open Classical in
def jumpQ (M : Md R) (V W : Nat) (S : List Nm) (idx : List Nat) (N : Nat) (vs0 : List AV) (Bs0 : Blks) (e1 : Ex) (ts1 : List AV) (Bs1 : Blks) : CQ R := fun F q b K =>
  bif isLen V N F && Nat.ble 1 V && Nat.ble 1 W && Nat.ble ts1.length (Nat.pow 4 V) && Nat.ble Bs1.length (Nat.pow 4 W) then
    M.cnd (decide (Cov S vs0 Bs0 (idx.map fun i => getT .undef (path V i) F) (S.map (getQ W q)))) (hdN true (mx b Bs1.length) fun b' => K e1 (frameF V ts1) (qOf W 0 Bs1) b') none
  else none
theorem jumpQ_ref {S : List Nm} {idx : List Nat} {N : Nat} {vs0 : List AV} {Bs0 : Blks} {e1 : Ex} {ts1 : List AV} {Bs1 : Blks} : RefC δ V W r (jumpQ M V W S idx N vs0 Bs0 e1 ts1 Bs1) (jumpS S idx N vs0 Bs0 e1 ts1 Bs1) := by
  intro F ts q h b Kq K T H hK hk
  unfold jumpQ at hk
  cases hc : isLen V N F && Nat.ble 1 V && Nat.ble 1 W && Nat.ble ts1.length (Nat.pow 4 V) && Nat.ble Bs1.length (Nat.pow 4 W) with
  | false => rw [hc] at hk; simp only [cond_false, δ.n0] at hk; cases hk
  | true =>
    rw [hc] at hk
    simp only [Bool.and_eq_true] at hc
    obtain ⟨⟨⟨⟨h1, h2⟩, h3⟩, h4⟩, h5⟩ := hc
    rw [cond_true] at hk
    obtain ⟨h6, hk⟩ := cnd_some hk
    rw [hdN_eq] at hk
    have h6 := @of_decide_eq_true _ (Classical.propDecidable _) h6
    rw [nths T, H.get] at h6
    unfold jumpS
    rw [if_pos ⟨isLen_eq T h1, h6⟩]
    exact hK _ _ _ _ _ _ (frameF_fr (Nat.le_of_ble_eq_true h2) (Nat.le_of_ble_eq_true h4)) (qOf_hq (Nat.le_of_ble_eq_true h3) Bs1 0 (by rw [Nat.zero_add]; exact Nat.le_of_ble_eq_true h5)) hk

/-! ### Runs -/
def D3 {α : Type} (P : Program) (N W : Nat) (ok : List FuncId) (T : Tb) (n : Nat) : SpecsQ (W3 α) := DQS m3 P N W ok (BQs m3 W T) n
theorem D3_ref {α : Type} {P : Program} {N W n : Nat} {ok : List FuncId} {T : Tb} {r : α} : RefD d3 W r (D3 P N W ok T n) (DD P N ok (BSs T) n) := DQS_ref (tb_ref T) (tb_none T) n
/-- A function over a few blocks. -/
def locQ (P : Program) (N W : Nat) (ok : List FuncId) (T : Tb) (n : Nat) (f : FuncId) (args0 : List AV) (Bs0 : Blks) (S : List Nm) : W3 (AV × Blks) :=
  bif Nat.ble 1 W && Nat.ble Bs0.length (Nat.pow 4 W) then match D3 P N W ok T n f with
    | some s => W3.ofO (s (qOf W 0 Bs0) Bs0.length args0 fun v q _ => some (.val (v, S.map (getQ W q))))
    | none => .nil
  else .nil
theorem locQ_run {N W n f : Nat} {ok : List FuncId} {T : Tb} {args0 : List AV} {Bs0 : Blks} {S : List Nm} {os : List (Nat × Bool)} {v : AV} {Bs : Blks} {l : List Bool} (h : flw3 (locQ P N W ok T n f args0 Bs0 S) os [] = some ((v, Bs), l)) (hl : ∀ t ∈ l, t = true) :
    ∃ s : Spec (AV × Blks), DD P N ok (BSs T) n f = some s ∧ s (heapOf 0 Bs0) Bs0.length args0 (probeV S) = some (v, Bs) := by
  have hd := (flw3_den _ _ _ _ _ h hl).1
  unfold locQ at hd
  cases hc : Nat.ble 1 W && Nat.ble Bs0.length (Nat.pow 4 W) with
  | false => rw [hc] at hd; cases hd
  | true =>
    rw [hc] at hd
    simp only [Bool.and_eq_true] at hc
    simp only [cond_true] at hd
    split at hd
    · rename_i sq hs
      obtain ⟨s, h1, h2⟩ := D3_ref (r := (v, Bs)) f sq hs
      refine ⟨s, h1, h2 _ _ _ _ _ (probeV S) (qOf_hq (Nat.le_of_ble_eq_true hc.1) Bs0 0 (by rw [Nat.zero_add]; exact Nat.le_of_ble_eq_true hc.2)) (fun v q h b H hk => ?_) hd⟩
      rw [H.get] at hk
      exact hk
    · cases hd
theorem loc_of_run {N W n f k : Nat} {ok : List FuncId} {T : Tb} {args0 : List AV} {Bs0 Bs1 : Blks} {S : List Nm} {os : List (Nat × Bool)} {v v0 : AV} {Bs : Blks} {l : List Bool} (hok : okAll P ok = true) (hT : Sound P (BSs T : Specs (AV × Blks))) (hf : (BSs T f : Option (Spec (AV × Blks))) = none)
    (h : flw3 (locQ P N W ok T n f args0 Bs0 S) os [] = some ((v, Bs), l)) (hl : ∀ t ∈ l, t = true) (hc : Cov S [v0] Bs1 [v] Bs) (hfx : fixB k S = true) : LocOk P k f args0 Bs0 v0 Bs1 := by
  obtain ⟨s, h1, h2⟩ := locQ_run h hl
  exact spec_loc (DD_spec hok hT hf h1) h2 hc hfx
/-- A piece of code over a few blocks. -/
def probeQ (V W N : Nat) (idx : List Nat) (S : List Nm) : Ex → Tri AV → QH → Nat → Option (W3 (Ex × List AV × Blks)) := fun e F q _ =>
  bif isLen V N F then some (.val (e, idx.map (fun i => getT .undef (path V i) F), S.map (getQ W q))) else none
def codeQ (P : Program) (N W : Nat) (ok : List FuncId) (T : Tb) (n V : Nat) (LQ : LQs (W3 (Ex × List AV × Blks))) (c : Code) (ts0 : List AV) (Bs0 : Blks) (idx : List Nat) (S : List Nm) : W3 (Ex × List AV × Blks) :=
  bif Nat.ble 1 W && Nat.ble Bs0.length (Nat.pow 4 W) && Nat.ble 1 V && Nat.ble ts0.length (Nat.pow 4 V) then
    W3.ofO (qvX m3 P (D3 P N W ok T n) N V W LQ c (frameF V ts0) (qOf W 0 Bs0) Bs0.length (probeQ V W ts0.length idx S))
  else .nil
theorem codeQ_run {N W n V : Nat} {ok : List FuncId} {T : Tb} {LQ : LQs (W3 (Ex × List AV × Blks))} {LD : LSpecs (Ex × List AV × Blks)} {c : Code} {ts0 : List AV} {Bs0 : Blks} {idx : List Nat} {S : List Nm} {os : List (Nat × Bool)} {e : Ex} {vs : List AV} {Bs : Blks} {l : List Bool}
    (hL : RefL d3 V W (e, vs, Bs) LQ LD) (h : flw3 (codeQ P N W ok T n V LQ c ts0 Bs0 idx S) os [] = some ((e, vs, Bs), l)) (hl : ∀ t ∈ l, t = true) : evX P (DD P N ok (BSs T) n) N LD c ts0 (heapOf 0 Bs0) Bs0.length (probe ts0.length idx S) = some (e, vs, Bs) := by
  have hd := (flw3_den _ _ _ _ _ h hl).1
  unfold codeQ at hd
  cases hc : Nat.ble 1 W && Nat.ble Bs0.length (Nat.pow 4 W) && Nat.ble 1 V && Nat.ble ts0.length (Nat.pow 4 V) with
  | false => rw [hc] at hd; cases hd
  | true =>
    rw [hc] at hd
    simp only [Bool.and_eq_true] at hc
    obtain ⟨⟨⟨c1, c2⟩, c3⟩, c4⟩ := hc
    rw [cond_true] at hd
    refine qvX_ref (δ := d3) hL D3_ref N c _ _ _ _ _ _ _ (frameF_fr (Nat.le_of_ble_eq_true c3) (Nat.le_of_ble_eq_true c4)) (qOf_hq (Nat.le_of_ble_eq_true c1) Bs0 0 (by rw [Nat.zero_add]; exact Nat.le_of_ble_eq_true c2)) (fun e' F ts q h b T H hk => ?_) hd
    unfold probeQ at hk
    cases hi : isLen V ts0.length F with
    | false => rw [hi] at hk; cases hk
    | true =>
      rw [hi, cond_true, nths T, H.get] at hk
      unfold probe
      rw [isLen_eq T hi, cond_true]
      exact hk
theorem code_of_run {N W n V k : Nat} {ok : List FuncId} {T : Tb} {LQ : LQs (W3 (Ex × List AV × Blks))} {LD : LSpecs (Ex × List AV × Blks)} {c : Code} {ts0 : List AV} {Bs0 Bs1 : Blks} {idx : List Nat} {S : List Nm} {os : List (Nat × Bool)} {e : Ex} {vs vs1 : List AV} {Bs : Blks} {l : List Bool}
    (hok : okAll P ok = true) (hT : Sound P (BSs T : Specs (Ex × List AV × Blks))) (hLk : LoopsOk P (Fix k) LD (loopsIn c)) (hL : RefL d3 V W (e, vs, Bs) LQ LD)
    (h : flw3 (codeQ P N W ok T n V LQ c ts0 Bs0 idx S) os [] = some ((e, vs, Bs), l)) (hl : ∀ t ∈ l, t = true) (hc : Cov S vs1 Bs1 vs Bs) (hfx : fixB k S = true) : CodeLoc P k c ts0 Bs0 e (mkTs ts0.length (idx.zip vs1)) Bs1 :=
  code_loc (DD_sound hok hT n) hLk (codeQ_run hL h hl) hc hfx
/-- A function over a few blocks, with contracts of its loops. -/
def fnXQ (P : Program) (N W : Nat) (ok : List FuncId) (T : Tb) (n : Nat) (LQ : Nat → LQs (W3 (AV × Blks))) (fn : Func) (args0 : List AV) (Bs0 : Blks) (S : List Nm) : W3 (AV × Blks) :=
  match fn.body with
  | some c => W3.ofO (hdN true (vOf fn.ntmps) fun V => bif Nat.ble 1 W && Nat.ble Bs0.length (Nat.pow 4 W) && Nat.ble args0.length fn.ntmps && Nat.ble fn.ntmps (Nat.pow 4 V) && Nat.ble 1 V then
      qvX m3 P (D3 P N W ok T n) N V W (LQ V) c (putArgs V 0 args0 (mkT (.tuple []) V fn.ntmps)) (qOf W 0 Bs0) Bs0.length fun e F q b => match e with
        | .exit _ => none
        | _ => match resQ V fn.results.toList F with
          | some vs => some (.val (one vs, S.map (getQ W q)))
          | none => none
    else none)
  | none => .nil
theorem fnX_run {N W n k f : Nat} {ok : List FuncId} {T : Tb} {LQ : Nat → LQs (W3 (AV × Blks))} {LD : LSpecs (AV × Blks)} {fn : Func} {args0 : List AV} {Bs0 Bs1 : Blks} {S : List Nm} {os : List (Nat × Bool)} {v v0 : AV} {Bs : Blks} {l : List Bool}
    (hok : okAll P ok = true) (hT : Sound P (BSs T : Specs (AV × Blks))) (hfn : P.funcs[f]? = some fn) (hLk : LoopsOk P (Fix k) LD (loopsIn (bodyOf fn))) (hL : ∀ V, RefL d3 V W (v, Bs) (LQ V) LD)
    (h : flw3 (fnXQ P N W ok T n LQ fn args0 Bs0 S) os [] = some ((v, Bs), l)) (hl : ∀ t ∈ l, t = true) (hc : Cov S [v0] Bs1 [v] Bs) (hfx : fixB k S = true) : LocOk P k f args0 Bs0 v0 Bs1 := by
  have hd := (flw3_den _ _ _ _ _ h hl).1
  refine fnX_loc (n := N) hfn (DD_sound (N := N) hok hT n) hLk ?_ hc hfx
  unfold fnXQ at hd
  unfold evFnX
  cases hb : fn.body with
  | none => rw [hb] at hd; cases hd
  | some c =>
    rw [hb] at hd
    simp only [hdN_eq] at hd ⊢
    generalize vOf fn.ntmps = V at hd
    have hd : (d3 : Dn m3 (AV × Blks)).den (bif Nat.ble 1 W && Nat.ble Bs0.length (Nat.pow 4 W) && Nat.ble args0.length fn.ntmps && Nat.ble fn.ntmps (Nat.pow 4 V) && Nat.ble 1 V then _ else none) = some (v, Bs) := hd
    cases hc : Nat.ble 1 W && Nat.ble Bs0.length (Nat.pow 4 W) && Nat.ble args0.length fn.ntmps && Nat.ble fn.ntmps (Nat.pow 4 V) && Nat.ble 1 V with
    | false => rw [hc] at hd; cases hd
    | true =>
      rw [hc] at hd
      simp only [Bool.and_eq_true] at hc
      obtain ⟨⟨⟨⟨c1, c2⟩, c3⟩, c4⟩, c5⟩ := hc
      rw [cond_true] at hd
      have TT := FR.args args0 0 (mkT (.tuple []) V fn.ntmps) [] fn.ntmps rfl (Nat.le_of_ble_eq_true c3) (FR.mk (Nat.le_of_ble_eq_true c5) (Nat.le_of_ble_eq_true c4))
      refine qvX_ref (δ := d3) (hL V) D3_ref N c _ _ _ _ _ _ _ TT (qOf_hq (Nat.le_of_ble_eq_true c1) Bs0 0 (by rw [Nat.zero_add]; exact Nat.le_of_ble_eq_true c2)) (fun e' F ts q h b T H hk => ?_) hd
      cases e' with
      | exit i => cases hk
      | normal =>
        simp only [res_ref T, H.get] at hk
        cases hv : resE fn.results.toList ts with
        | none => rw [hv] at hk; cases hk
        | some vs => rw [hv] at hk; exact hk
      | ret =>
        simp only [res_ref T, H.get] at hk
        cases hv : resE fn.results.toList ts with
        | none => rw [hv] at hk; cases hk
        | some vs => rw [hv] at hk; exact hk
end
end Go.Proofs.YtipigcgegmedeaaGreat.Ev
