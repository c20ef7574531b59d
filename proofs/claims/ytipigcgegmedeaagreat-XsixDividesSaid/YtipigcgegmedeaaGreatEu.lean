/- A quick evaluator for closed calls: slots and store as trees, small steps by closed pieces. Its parts, and that each does what the evaluator's does. -/
import Derived.Test.YtipigcgegmedeaaGreatEt
namespace Go.Proofs.YtipigcgegmedeaaGreat.Ev
open Go
set_option linter.unusedVariables false
set_option linter.unusedSimpArgs false
noncomputable section
variable {R : Type} {P : Program}

/-! ### Trees by digits -/
inductive D4 where
  | a | b | c | d
  deriving DecidableEq
inductive Tri (α : Type) where
  | out
  | lf (v : α)
  | nd (a b c d : Tri α)
def digs (q : Nat) (p : List D4) : List D4 :=
  match q with
  | 0 => .a :: p
  | 1 => .b :: p
  | 2 => .c :: p
  | 3 => .d :: p
  | _ => []
def path : Nat → Nat → List D4
  | 0, _ => []
  | n + 1, i => digs (Nat.div i (Nat.pow 4 n)) (path n (Nat.mod i (Nat.pow 4 n)))
def getT {α : Type} (x0 : α) (p : List D4) : Tri α → α :=
  List.rec (motive := fun _ => Tri α → α) (fun t => Tri.casesOn (motive := fun _ => α) t x0 (fun v => v) fun _ _ _ _ => x0)
    (fun x _ ih t => Tri.casesOn (motive := fun _ => α) t x0 (fun _ => x0) fun a b c d => D4.casesOn (motive := fun _ => α) x (ih a) (ih b) (ih c) (ih d)) p
def inT {α : Type} (p : List D4) : Tri α → Bool :=
  List.rec (motive := fun _ => Tri α → Bool) (fun t => Tri.casesOn (motive := fun _ => Bool) t false (fun _ => true) fun _ _ _ _ => false)
    (fun x _ ih t => Tri.casesOn (motive := fun _ => Bool) t false (fun _ => false) fun a b c d => D4.casesOn (motive := fun _ => Bool) x (ih a) (ih b) (ih c) (ih d)) p
def putT {α : Type} (v : α) (p : List D4) : Tri α → Tri α :=
  List.rec (motive := fun _ => Tri α → Tri α) (fun t => Tri.casesOn (motive := fun _ => Tri α) t .out (fun _ => .lf v) fun a b c d => .nd a b c d)
    (fun x _ ih t => Tri.casesOn (motive := fun _ => Tri α) t .out (fun v => .lf v) fun a b c d => D4.casesOn (motive := fun _ => Tri α) x (.nd (ih a) b c d) (.nd a (ih b) c d) (.nd a b (ih c) d) (.nd a b c (ih d))) p
theorem in_put {α : Type} (v : α) : ∀ (p q : List D4) (t : Tri α), inT p (putT v q t) = inT p t := by
  intro p
  induction p with
  | nil => intro q t; cases q <;> cases t <;> first | rfl | (rename_i x _ _ _ _ _; cases x <;> rfl)
  | cons x p ih =>
    intro q t
    cases q with
    | nil => cases t <;> rfl
    | cons y q =>
      cases t with
      | out => rfl
      | lf v => rfl
      | nd a b c d => cases x <;> cases y <;> first | rfl | exact ih q _
theorem get_put {α : Type} (x0 v : α) : ∀ (p q : List D4) (t : Tri α), getT x0 p (putT v q t) = if p = q ∧ inT q t = true then v else getT x0 p t := by
  intro p
  induction p with
  | nil =>
    intro q t
    cases q with
    | nil => cases t <;> simp [getT, putT, inT]
    | cons y q => cases t <;> first | (simp [getT, putT]; done) | (cases y <;> simp [getT, putT])
  | cons x p ih =>
    intro q t
    cases q with
    | nil => cases t <;> simp [getT, putT]
    | cons y q =>
      cases t with
      | out => simp [getT, putT, inT]
      | lf v => simp [getT, putT, inT]
      | nd a b c d =>
        have h1 : ∀ t : Tri α, getT x0 p (putT v q t) = if p = q ∧ inT q t = true then v else getT x0 p t := ih q
        cases x <;> cases y <;> first
          | (simp only [List.cons.injEq, true_and]; exact h1 _)
          | (rw [if_neg (by simp)]; rfl)
theorem get_out {α : Type} (x0 : α) : ∀ (p : List D4) (t : Tri α), inT p t = false → getT x0 p t = x0 := by
  intro p
  induction p with
  | nil => intro t h; cases t <;> first | rfl | cases h
  | cons x p ih => intro t h; cases t <;> first | rfl | (cases x <;> exact ih _ h)
theorem path_succ (n i : Nat) : path (n + 1) i = digs (i / 4 ^ n) (path n (i % 4 ^ n)) := rfl
theorem digs_inj {q q' : Nat} {p p' : List D4} (hq : q < 4) (hq' : q' < 4) (h : digs q p = digs q' p') : q = q' ∧ p = p' := by
  rcases q with _ | _ | _ | _ | q <;> rcases q' with _ | _ | _ | _ | q' <;> first | omega | (simp [digs] at h; done) | (simp only [digs, List.cons.injEq, true_and] at h; exact ⟨rfl, h⟩)
theorem path_inj : ∀ (n i j : Nat), i < 4 ^ n → j < 4 ^ n → path n i = path n j → i = j := by
  intro n
  induction n with
  | zero => intro i j hi hj _; simp at hi hj; omega
  | succ n ih =>
    intro i j hi hj h
    have hp : 0 < 4 ^ n := Nat.pow_pos (by decide)
    have e : 4 ^ (n + 1) = 4 ^ n * 4 := Nat.pow_succ _ _
    have h4 : ∀ i, i < 4 ^ (n + 1) → i / 4 ^ n < 4 := fun i hi => Nat.div_lt_of_lt_mul (by rw [← e]; exact hi)
    rw [path_succ, path_succ] at h
    obtain ⟨h1, h2⟩ := digs_inj (h4 i hi) (h4 j hj) h
    have h3 := ih _ _ (Nat.mod_lt _ hp) (Nat.mod_lt _ hp) h2
    rw [← Nat.div_add_mod i (4 ^ n), ← Nat.div_add_mod j (4 ^ n), h1, h3]
theorem path_out {n i : Nat} (hn : 0 < n) (h : 4 ^ n ≤ i) : path n i = [] := by
  cases n with
  | zero => omega
  | succ n =>
    have hp : 0 < 4 ^ n := Nat.pow_pos (by decide)
    have e : 4 ^ (n + 1) = 4 ^ n * 4 := Nat.pow_succ _ _
    have : 4 ≤ i / 4 ^ n := (Nat.le_div_iff_mul_le hp).2 (by omega)
    rw [path_succ]
    obtain ⟨k, hk⟩ := Nat.exists_eq_add_of_le this
    rw [hk, Nat.add_comm]
    rfl

/-! ### Frames -/
def mkT {α : Type} (v : α) : Nat → Nat → Tri α
  | 0, n => match n with
    | 0 => .out
    | _ + 1 => .lf v
  | w + 1, n => .nd (mkT v w n) (mkT v w (Nat.sub n (Nat.pow 4 w))) (mkT v w (Nat.sub n (Nat.mul 2 (Nat.pow 4 w)))) (mkT v w (Nat.sub n (Nat.mul 3 (Nat.pow 4 w))))
theorem mk_in {α : Type} (v : α) : ∀ (w n i : Nat), i < 4 ^ w → inT (path w i) (mkT v w n) = decide (i < n) := by
  intro w
  induction w with
  | zero =>
    intro n i hi
    simp at hi
    subst hi
    cases n <;> simp [path, mkT, inT]
  | succ w ih =>
    intro n i hi
    have hp : 0 < 4 ^ w := Nat.pow_pos (by decide)
    have e : 4 ^ (w + 1) = 4 ^ w * 4 := Nat.pow_succ _ _
    have h4 : i / 4 ^ w < 4 := Nat.div_lt_of_lt_mul (by rw [← e]; exact hi)
    have hm := Nat.mod_lt i hp
    have hd := Nat.div_add_mod i (4 ^ w)
    rw [path_succ]
    generalize i / 4 ^ w = q at h4 hd
    generalize i % 4 ^ w = m at hm hd ⊢
    rcases q with _ | _ | _ | _ | q
    · exact (ih n m hm).trans (decide_eq_decide.2 (by omega))
    · exact (ih (n - 4 ^ w) m hm).trans (decide_eq_decide.2 (by omega))
    · exact (ih (n - 2 * 4 ^ w) m hm).trans (decide_eq_decide.2 (by omega))
    · exact (ih (n - 3 * 4 ^ w) m hm).trans (decide_eq_decide.2 (by omega))
    · omega
theorem mk_get {α : Type} (x0 v : α) : ∀ (w n : Nat) (p : List D4), inT p (mkT v w n) = true → getT x0 p (mkT v w n) = v := by
  intro w
  induction w with
  | zero => intro n p h; cases n <;> cases p <;> first | rfl | cases h
  | succ w ih => intro n p h; cases p with
    | nil => cases h
    | cons x p => cases x <;> exact ih _ _ h
/-- The slots of a tree are those of a list. -/
def FR (W : Nat) (F : Tri AV) (ts : List AV) : Prop := ts.length ≤ 4 ^ W ∧ ∀ i, getT .undef (path W i) F = nth ts i ∧ inT (path W i) F = decide (i < ts.length)
theorem nth_lt {ts : List AV} {i : Nat} (h : i < ts.length) : nth ts i = ts[i] := by rw [nth_eq, List.getElem?_eq_getElem h]; rfl
theorem FR.put {W : Nat} {F : Tri AV} {ts : List AV} (h : FR W F ts) (d : Nat) (v : AV) : FR W (putT v (path W d) F) (putAt ts d v) := by
  refine ⟨by rw [putAt_len]; exact h.1, fun i => ⟨?_, by rw [in_put, putAt_len]; exact (h.2 i).2⟩⟩
  rw [get_put, (h.2 d).2]
  by_cases hd : d < ts.length
  · by_cases e : i = d
    · subst e
      rw [if_pos ⟨rfl, by simpa using hd⟩, nth_put_eq ts i v hd]
    · rw [nth_put_ne ts i d v e, if_neg, (h.2 i).1]
      rintro ⟨e1, -⟩
      have hin : inT (path W i) F = inT (path W d) F := by rw [e1]
      rw [(h.2 i).2, (h.2 d).2] at hin
      have hi : i < ts.length := by simpa [hd] using hin
      exact e (path_inj W i d (Nat.lt_of_lt_of_le hi h.1) (Nat.lt_of_lt_of_le hd h.1) e1)
  · rw [if_neg (by simp [hd]), (h.2 i).1]
    by_cases e : i = d
    · subst e; exact (nth_out ts i (Nat.le_of_not_lt hd)).trans (nth_out _ _ (by rw [putAt_len]; exact Nat.le_of_not_lt hd)).symm
    · rw [nth_put_ne ts i d v e]
/-! ### Roads, made once: a closed piece is reckoned once by the kernel -/
structure BxG (α : Type) where
  f : Tri α → α
structure BxP (α : Type) where
  f : α → Tri α → Tri α
def rdL {α : Type} (x0 : α) (t : Tri α) : α := Tri.rec (motive := fun _ => α) x0 (fun v => v) (fun _ _ _ _ _ _ _ _ => x0) t
def rdA {α : Type} (x0 : α) (g : Tri α → α) (t : Tri α) : α := Tri.rec (motive := fun _ => α) x0 (fun _ => x0) (fun a _ _ _ _ _ _ _ => g a) t
def rdB {α : Type} (x0 : α) (g : Tri α → α) (t : Tri α) : α := Tri.rec (motive := fun _ => α) x0 (fun _ => x0) (fun _ a _ _ _ _ _ _ => g a) t
def rdC {α : Type} (x0 : α) (g : Tri α → α) (t : Tri α) : α := Tri.rec (motive := fun _ => α) x0 (fun _ => x0) (fun _ _ a _ _ _ _ _ => g a) t
def rdD {α : Type} (x0 : α) (g : Tri α → α) (t : Tri α) : α := Tri.rec (motive := fun _ => α) x0 (fun _ => x0) (fun _ _ _ a _ _ _ _ => g a) t
def boxG {α : Type} (x0 : α) (p : List D4) : BxG α :=
  List.rec (motive := fun _ => BxG α) ⟨rdL x0⟩ (fun x _ ih => D4.casesOn (motive := fun _ => BxG α) x ⟨rdA x0 ih.f⟩ ⟨rdB x0 ih.f⟩ ⟨rdC x0 ih.f⟩ ⟨rdD x0 ih.f⟩) p
theorem boxG_eq {α : Type} (x0 : α) : ∀ p : List D4, (boxG x0 p).f = getT x0 p := by
  intro p
  induction p with
  | nil => funext t; cases t <;> rfl
  | cons x p ih => funext t; cases x <;> cases t <;> first | rfl | exact congrFun ih _
def wrL {α : Type} (v : α) (t : Tri α) : Tri α := Tri.rec (motive := fun _ => Tri α) .out (fun _ => .lf v) (fun a b c d _ _ _ _ => .nd a b c d) t
def wrA {α : Type} (g : α → Tri α → Tri α) (v : α) (t : Tri α) : Tri α := Tri.rec (motive := fun _ => Tri α) .out (fun v => .lf v) (fun a b c d _ _ _ _ => .nd (g v a) b c d) t
def wrB {α : Type} (g : α → Tri α → Tri α) (v : α) (t : Tri α) : Tri α := Tri.rec (motive := fun _ => Tri α) .out (fun v => .lf v) (fun a b c d _ _ _ _ => .nd a (g v b) c d) t
def wrC {α : Type} (g : α → Tri α → Tri α) (v : α) (t : Tri α) : Tri α := Tri.rec (motive := fun _ => Tri α) .out (fun v => .lf v) (fun a b c d _ _ _ _ => .nd a b (g v c) d) t
def wrD {α : Type} (g : α → Tri α → Tri α) (v : α) (t : Tri α) : Tri α := Tri.rec (motive := fun _ => Tri α) .out (fun v => .lf v) (fun a b c d _ _ _ _ => .nd a b c (g v d)) t
def boxP {α : Type} (p : List D4) : BxP α :=
  List.rec (motive := fun _ => BxP α) ⟨wrL⟩ (fun x _ ih => D4.casesOn (motive := fun _ => BxP α) x ⟨wrA ih.f⟩ ⟨wrB ih.f⟩ ⟨wrC ih.f⟩ ⟨wrD ih.f⟩) p
theorem boxP_eq {α : Type} (v : α) : ∀ (p : List D4) (t : Tri α), (boxP p).f v t = putT v p t := by
  intro p
  induction p with
  | nil => intro t; cases t <;> rfl
  | cons x p ih => intro t; cases x <;> cases t <;> first | rfl | (simp only [boxP, wrA, wrB, wrC, wrD, putT]; simp only [boxP, putT] at ih; rw [ih])
def boxT (W : Nat) (d : Option Tmp) : BxP AV :=
  match d with
  | some d => boxP (path W d)
  | none => ⟨fun _ F => F⟩
def putQ (W : Nat) (F : Tri AV) (d : Option Tmp) (v : AV) : Tri AV := (boxT W d).f v F
theorem FR.putD {W : Nat} {F : Tri AV} {ts : List AV} (h : FR W F ts) (d : Option Tmp) (v : AV) : FR W (putQ W F d v) (Ev.putD ts d v) := by
  cases d with
  | none => exact h
  | some d =>
    have e : putQ W F (some d) v = putT v (path W d) F := boxP_eq v _ _
    rw [e]; exact h.put d v
def putArgs (W : Nat) : Nat → List AV → Tri AV → Tri AV
  | _, [], t => t
  | i, v :: l, t => putArgs W (i + 1) l (putT v (path W i) t)
theorem FR.args {W : Nat} : ∀ (l : List AV) (i : Nat) (F : Tri AV) (pre : List AV) (n : Nat), pre.length = i → l.length ≤ n → FR W F (pre ++ fills n) → FR W (putArgs W i l F) (pre ++ l ++ fills (n - l.length)) := by
  intro l
  induction l with
  | nil => intro i F pre n _ _ h; simpa [putArgs] using h
  | cons v l ih =>
    intro i F pre n hp hn h
    cases n with
    | zero => simp at hn
    | succ n =>
      have e : putAt (pre ++ fills (n + 1)) i v = (pre ++ [v]) ++ fills n := by
        subst hp
        clear h ih
        induction pre with
        | nil => rfl
        | cons x pre ih => exact congrArg (x :: ·) ih
      have := ih (i + 1) (putT v (path W i) F) (pre ++ [v]) n (by simp [hp]) (by simpa using hn) (by rw [← e]; exact h.put i v)
      simpa [putArgs, Nat.add_sub_add_right] using this
theorem FR.mk {W n : Nat} (hW : 0 < W) (hn : n ≤ 4 ^ W) : FR W (mkT (.tuple []) W n) (fills n) := by
  refine ⟨by rw [fills_len]; exact hn, fun i => ?_⟩
  by_cases hi : i < 4 ^ W
  · have h1 := mk_in (.tuple [] : AV) W n i hi
    refine ⟨?_, by rw [h1, fills_len]⟩
    by_cases hin : i < n
    · rw [mk_get _ _ _ _ _ (by rw [h1]; simpa using hin), nth_lt (by rw [fills_len]; exact hin), fills_get]
    · rw [get_out _ _ _ (by rw [h1]; simpa using hin), nth_out _ _ (by rw [fills_len]; omega)]
  · have hp := path_out hW (Nat.le_of_not_lt hi)
    rw [hp]
    cases W with
    | zero => omega
    | succ W => exact ⟨by rw [nth_out _ _ (by rw [fills_len]; omega)]; rfl, by rw [fills_len]; simp only [mkT, inT]; symm; simpa using Nat.le_trans hn (Nat.le_of_not_lt hi)⟩
def boxA (W : Nat) (x : Operand) : BxG AV :=
  match x with
  | .tmp t => boxG .undef (path W t)
  | .const v => ⟨fun _ => ofV 3 v⟩
  | .global _ => ⟨fun _ => .undef⟩
  | .func f => ⟨fun _ => .func f⟩
def evF (W : Nat) (F : Tri AV) (x : Operand) : AV := (boxA W x).f F
theorem FR.ev {W : Nat} {F : Tri AV} {ts : List AV} (h : FR W F ts) : evF W F = evA ts := by
  funext x
  cases x with
  | tmp t => exact (congrFun (boxG_eq _ _) F).trans (h.2 t).1
  | _ => rfl

/-! ### The store -/
abbrev QH := Tri (Option Fam)
def HQ (W : Nat) (q : QH) (h : Heap) : Prop := (∀ f, getT none (path W f) q = fam h f) ∧ ∀ f, inT (path W f) q = true → f < 4 ^ W
/-- A number brought to its head. -/
def hdS {α : Type} (n : Nat) (k : Nat → α) : α := Nat.rec (motive := fun _ => α) (k 0) (fun p _ => k (Nat.succ p)) n
theorem hdS_eq {α : Type} (n : Nat) (k : Nat → α) : hdS n k = k n := by cases n <;> rfl
def famQ (W : Nat) (q : QH) (i : Nat) (f : Nat) : Option Blk := match (boxG none (path W f)).f q with
  | some F => F.get i
  | none => none
def getQ (W : Nat) (q : QH) : Gt := fun n => hdS n.fam (famQ W q n.idx)
theorem HQ.get {W : Nat} {q : QH} {h : Heap} (H : HQ W q h) : getQ W q = Ev.get h := by
  funext n
  unfold getQ Ev.get
  rw [hdS_eq]
  unfold famQ
  rw [boxG_eq, H.1]
  cases fam h n.fam <;> rfl
def modQ (W : Nat) (f : Nat) (g : Fam → Fam) (q : QH) : QH := hdS f fun f => (boxP (path W f)).f (((boxG none (path W f)).f q).map g) q
theorem modQ_eq (W : Nat) (f : Nat) (g : Fam → Fam) (q : QH) : modQ W f g q = putT ((getT none (path W f) q).map g) (path W f) q := by
  unfold modQ
  rw [hdS_eq, boxP_eq, boxG_eq]
theorem HQ.put {W : Nat} {q : QH} {h h' : Heap} (H : HQ W q h) (f : Nat) (x : Option Fam) (hf : inT (path W f) q = true → fam h' f = x) (h0 : inT (path W f) q = false → fam h' f = fam h f) (hk : ∀ k, k ≠ f → fam h' k = fam h k) : HQ W (putT x (path W f) q) h' := by
  refine ⟨fun k => ?_, fun k hi => H.2 k (by rwa [in_put] at hi)⟩
  rw [get_put]
  by_cases hi : inT (path W f) q = true
  · by_cases e : k = f
    · subst e; rw [if_pos ⟨rfl, hi⟩, hf hi]
    · rw [if_neg, H.1, hk k e]
      rintro ⟨e1, -⟩
      exact e (path_inj W k f (H.2 k (by rw [e1]; exact hi)) (H.2 f hi) e1)
  · rw [if_neg (fun c => hi c.2), H.1]
    by_cases e : k = f
    · subst e; exact (h0 (by simpa using hi)).symm
    · exact (hk k e).symm
theorem HQ.mod {W : Nat} {q : QH} {h : Heap} (H : HQ W q h) (f : Nat) (g : Fam → Fam) : HQ W (modQ W f g q) (upd f g h) := by
  rw [modQ_eq]
  refine H.put f _ (fun _ => ?_) (fun hi => ?_) fun k hk => ?_
  · rw [fam_upd, if_pos rfl, H.1]
  · have := H.1 f
    rw [get_out _ _ _ hi] at this
    rw [fam_upd, if_pos rfl, ← this]; rfl
  · rw [fam_upd, if_neg (Ne.symm hk)]
def newQ (W : Nat) (q0 q : QH) (b : Nat) (B : Blk) (K : QH → Nat → Option R) : Option R :=
  bif (getT none (path W b) q0).isNone && inT (path W b) q0 then hdN true (Nat.succ b) fun b' => K (putT (some (.one B)) (path W b) q) b' else none
theorem fam_add (h : Heap) (b : Nat) (B : Blk) (k : Nat) : fam (add h b B) k = if b = k then some (.one B) else fam h k := by simp only [add, fam, sel_eq, beq_cond]
theorem HQ.add {W : Nat} {q : QH} {h : Heap} (H : HQ W q h) {b : Nat} (B : Blk) (hi : inT (path W b) q = true) : HQ W (putT (some (.one B)) (path W b) q) (Ev.add h b B) :=
  H.put b _ (fun _ => by rw [fam_add, if_pos rfl]) (fun h0 => by rw [hi] at h0; cases h0) fun k hk => by rw [fam_add, if_neg (Ne.symm hk)]
def onQ (W : Nat) (q : QH) (b : Nat) (K : AV → QH → Nat → Option R) : KD R := fun v d => match d with
  | .same => K v q b
  | .new B => newQ W q q b B (K v)
  | .put n B => K v (modQ W n.fam (Fam.set n.idx B) q) b
  | .grow n B => newQ W q (modQ W n.fam (Fam.kill n.idx) q) b B (K v)
theorem in_mod (W f : Nat) (g : Fam → Fam) (q : QH) (p : List D4) : inT p (modQ W f g q) = inT p q := by rw [modQ_eq]; exact in_put _ _ _ _
theorem on_ref {Rq : Type} {den : Option Rq → Option R} (n0 : den none = none) {W : Nat} {q : QH} {h : Heap} (H : HQ W q h) {b : Nat} {Kq : AV → QH → Nat → Option Rq} {K : Kont R} {r : R} (hK : ∀ v q' h' b', HQ W q' h' → den (Kq v q' b') = some r → K v h' b' = some r) {v : AV} {d : Dl} (hk : den (onQ W q b Kq v d) = some r) : onD h b K v d = some r := by
  have hnew : ∀ {q' : QH} {h' : Heap} {B : Blk}, HQ W q' h' → (∀ p, inT p q' = inT p q) → den (newQ W q q' b B (Kq v)) = some r → (fam h b).isNone = true ∧ K v (Ev.add h' b B) (b + 1) = some r := by
    intro q' h' B H' hin hn
    unfold newQ at hn
    cases hc : (getT none (path W b) q).isNone && inT (path W b) q with
    | false => rw [hc] at hn; simp only [cond_false, n0] at hn; cases hn
    | true =>
      rw [hc] at hn
      simp only [cond_true, hdN_eq] at hn
      simp only [Bool.and_eq_true] at hc
      exact ⟨by rw [← H.1]; exact hc.1, hK _ _ _ _ (H'.add B ((hin _).trans hc.2)) hn⟩
  unfold onD
  cases d with
  | same => exact hK _ _ _ _ H hk
  | put n B => exact hK _ _ _ _ (H.mod n.fam _) hk
  | new B =>
    obtain ⟨h1, h2⟩ := hnew H (fun _ => rfl) hk
    simp only [newOk, h1, cond_true]; exact h2
  | grow n B =>
    obtain ⟨h1, h2⟩ := hnew (H.mod n.fam (Fam.kill n.idx)) (fun p => in_mod _ _ _ _ p) hk
    simp only [newOk, h1, cond_true]; exact h2
theorem HQ.empty {W : Nat} (hW : 0 < W) : HQ W (mkT none W (4 ^ W)) [] := by
  refine ⟨fun f => ?_, fun f hf => ?_⟩
  · by_cases hi : inT (path W f) (mkT (none : Option Fam) W (4 ^ W)) = true
    · exact mk_get _ _ _ _ _ hi
    · exact get_out _ _ _ (by simpa using hi)
  · by_cases h : f < 4 ^ W
    · exact h
    · rw [path_out hW (Nat.le_of_not_lt h)] at hf
      cases W with
      | zero => omega
      | succ W => cases hf
end
end Go.Proofs.YtipigcgegmedeaaGreat.Ev
