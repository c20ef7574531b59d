/- Quick runs with contracts that lay blocks of their own; such contracts by closed runs. -/
import Derived.Test.YtipigcgegmedeaaGreatGa
namespace Go.Proofs.YtipigcgegmedeaaGreat.Ev
open Go Go.RowKit
set_option linter.unusedVariables false
set_option linter.unusedSimpArgs false
noncomputable section
variable {R : Type} {P : Program}

/-! ### The contracts' quick side -/
def newsQ (W : Nat) (Bs : List Blk) (q : QH) (b : Nat) (K : QH → Nat → Option R) : Option R :=
  match Bs with
  | [] => K q b
  | B :: t => newQ W q q b B fun q' b' => newsQ W t q' b' K
def freshQ (W : Nat) (g : List AV → Option (AV × List Blk)) : SpecQ R := fun q b args K =>
  match g args with
  | some (v, Bs) => newsQ W (Bs.map (Blk.sh b)) q b (K (shA b 3 v))
  | none => none
section
variable {Rq : Type} {M : Md Rq} {δ : Dn M R} {r : R} {W : Nat}
theorem news_ref {Bs : List Blk} : ∀ {q : QH} {h : Heap} {b : Nat} {Kq : QH → Nat → Option Rq} {K : Heap → Nat → Option R}, HQ W q h → (∀ q h b, HQ W q h → δ.den (Kq q b) = some r → K h b = some r) → δ.den (newsQ W Bs q b Kq) = some r → newsK Bs h b K = some r := by
  induction Bs with
  | nil => intro q h b Kq K H hK hk; exact hK _ _ _ H hk
  | cons B t ih =>
    intro q h b Kq K H hK hk
    simp only [newsQ, newQ] at hk
    simp only [newsK]
    cases hc : (getT none (path W b) q).isNone && inT (path W b) q with
    | false => rw [hc] at hk; simp only [cond_false, δ.n0] at hk; cases hk
    | true =>
      rw [hc] at hk
      simp only [cond_true, hdN_eq] at hk
      simp only [Bool.and_eq_true] at hc
      rw [← H.1 b, hc.1, cond_true]
      exact ih (H.add B hc.2) hK hk
theorem freshQ_ref (g : List AV → Option (AV × List Blk)) : RefS δ W r (freshQ W g) (freshS g) := by
  intro q h b args Kq K H hK hk
  unfold freshQ at hk
  unfold freshS
  split at hk
  · rename_i v Bs hv
    simp only [hv]
    exact news_ref H (fun q h b H hk => hK _ _ _ _ H hk) hk
  · rw [δ.n0] at hk; cases hk
end
/-- What is known of a function: its value, or its value and the blocks that it lays. -/
inductive Ent where
  | val (g : List AV → Option AV)
  | blk (g : List AV → Option (AV × List Blk))
  | hint (k : IntKind) (l : List (Int × AV))   -- of some numbers: the value
abbrev Tab := List (FuncId × Ent)
def hintF (l : List (Int × AV)) (w : Int) : Option AV := match l with
  | [] => none
  | (w0, v) :: t => bif eqQ w w0 then some v else hintF t w
def hintG (k : IntKind) (l : List (Int × AV)) : List AV → Option AV := fun args => match args with
  | [.int k' w] => bif eqK k k' then hintF l w else none
  | _ => none
def hintL (M : Md R) (l : List (Int × AV)) (w : Int) (K : AV → Option R) : Option R := match l with
  | [] => none
  | (w0, v) :: t => M.cnd (eqQ w w0) (K v) (hintL M t w K)
def hintQ (M : Md R) (k : IntKind) (l : List (Int × AV)) : SpecQ R := fun q b args K => match args with
  | [.int k' w] => bif eqK k k' then hintL M l w (fun v => K v q b) else none
  | _ => none
theorem hintL_some {Rq : Type} {M : Md Rq} {δ : Dn M R} {r : R} {w : Int} {K : AV → Option Rq} : ∀ {l : List (Int × AV)}, δ.den (hintL M l w K) = some r → ∃ v, hintF l w = some v ∧ δ.den (K v) = some r := by
  intro l
  induction l with
  | nil => intro h; change δ.den none = some r at h; rw [δ.n0] at h; cases h
  | cons p t ih =>
    intro h
    obtain ⟨w0, v⟩ := p
    simp only [hintL, δ.cn] at h
    simp only [hintF]
    cases hb : eqQ w w0 with
    | true => rw [hb, cond_true] at h; exact ⟨v, by simp, h⟩
    | false => rw [hb, cond_false] at h; simpa using ih h
theorem hint_ref {Rq : Type} {M : Md Rq} {δ : Dn M R} {W : Nat} {r : R} (k : IntKind) (l : List (Int × AV)) : RefS δ W r (hintQ M k l) (pureS (hintG k l)) := by
  intro q h b args Kq K H hK hk
  unfold hintQ at hk
  unfold pureS hintG
  split at hk
  · rename_i k' w
    obtain ⟨h1, hk⟩ := bif_some hk
    obtain ⟨v, h2, hk⟩ := hintL_some hk
    simp only [h1, cond_true, h2]
    exact hK _ _ _ _ H hk
  · rw [δ.n0] at hk; cases hk
theorem hint_sound {f : FuncId} {s : Spec AV} {k : IntKind} {l : List (Int × AV)} (hs : SoundSpec P f s) (hl : ∀ p ∈ l, flat 3 p.2 = true ∧ s [] 0 [.int k p.1] (fun v _ _ => some v) = some p.2) : SoundSpec P f (pureS (hintG k l) : Spec R) := by
  refine pure_sound hs fun args v hv => ?_
  unfold hintG at hv
  split at hv
  · rename_i k' w
    cases hk : eqK k k' with
    | false => rw [hk] at hv; cases hv
    | true =>
      have := eqK_eq hk
      subst this
      rw [hk, cond_true] at hv
      refine ⟨rfl, ?_⟩
      clear hs hk
      induction l with
      | nil => cases hv
      | cons p t ih =>
        obtain ⟨w0, v0⟩ := p
        simp only [hintF] at hv
        cases hb : eqQ w w0 with
        | false => rw [hb, cond_false] at hv; exact ih (fun p hp => hl p (List.mem_cons_of_mem _ hp)) hv
        | true =>
          rw [hb, cond_true] at hv
          cases hv
          rw [eqQ_eq] at hb
          have := eq_of_beq hb
          subst this
          exact hl _ (List.mem_cons_self ..)
  · cases hv
def entQ (M : Md R) (W : Nat) : Ent → SpecQ R
  | .val g => pureQ g
  | .blk g => freshQ W g
  | .hint k l => hintQ M k l
def entS : Ent → Spec R
  | .val g => pureS g
  | .blk g => freshS g
  | .hint k l => pureS (hintG k l)
def TQs (M : Md R) (W : Nat) (T : Tab) : SpecsQ R := fun f => match T with
  | [] => none
  | (k, e) :: t => match Nat.beq f k with
    | true => some (entQ M W e)
    | false => TQs M W t f
def TSs (T : Tab) : Specs R := fun f => match T with
  | [] => none
  | (k, e) :: t => match Nat.beq f k with
    | true => some (entS e)
    | false => TSs t f
theorem tab_ref {Rq : Type} {M : Md Rq} {δ : Dn M R} {W : Nat} {r : R} : ∀ T : Tab, RefD δ W r (TQs M W T) (TSs T) := by
  intro T
  induction T with
  | nil => intro f sq h; cases h
  | cons p t ih =>
    intro f sq h
    obtain ⟨k, e⟩ := p
    simp only [TQs] at h
    simp only [TSs]
    cases hb : Nat.beq f k with
    | true =>
      simp only [hb, Option.some.injEq] at h
      subst h
      refine ⟨entS e, rfl, ?_⟩
      cases e with
      | val g => exact pure_ref g
      | blk g => exact freshQ_ref g
      | hint k l => exact hint_ref k l
    | false => simp only [hb] at h; exact ih f sq h
theorem tab_none {Rq : Type} {M : Md Rq} {W : Nat} : ∀ (T : Tab) (f : FuncId), (TQs M W T f : Option (SpecQ Rq)) = none → (TSs T f : Option (Spec R)) = none := by
  intro T
  induction T with
  | nil => intro f h; rfl
  | cons p t ih =>
    intro f h
    obtain ⟨k, e⟩ := p
    simp only [TQs] at h
    simp only [TSs]
    cases hb : Nat.beq f k with
    | true => simp only [hb] at h; cases h
    | false => simp only [hb] at h ⊢; exact ih f h
theorem tab_nil : Sound P (TSs [] : Specs R) := fun f s h => by cases h
theorem tab_cons {f : FuncId} {e : Ent} {T : Tab} (he : SoundSpec P f (entS e : Spec R) ∨ SoundX P f (entS e : Spec R)) (hT : Sound P (TSs T : Specs R)) : Sound P (TSs ((f, e) :: T) : Specs R) := by
  intro n s hs
  simp only [TSs] at hs
  cases hb : Nat.beq n f with
  | true =>
    simp only [hb, Option.some.injEq] at hs
    subst hs
    have := Nat.eq_of_beq_eq_true hb
    subst this
    exact he
  | false => simp only [hb] at hs; exact hT n s hs
def tabS (P : Program) (N W : Nat) (ok : List FuncId) (T : Tab) (n : Nat) (f : FuncId) (args : List AV) : Option AV :=
  match DQS mC P N W ok (TQs mC W T) n f with
  | some s => s (mkT none W (Nat.pow 4 W)) 0 args fun v _ _ => some v
  | none => none
def tabT (P : Program) (N W : Nat) (ok : List FuncId) (T : Tab) (n : Nat) (f : FuncId) (args : List AV) : Bool :=
  match tabS P N W ok T n f args with
  | some (.bool b) => b
  | _ => false
theorem tabT_run {N W n f : Nat} {ok : List FuncId} {T : Tab} {args : List AV} (hW : 0 < W) (h : true = tabT P N W ok T n f args) : ∃ s, DD P N ok (TSs T) n f = some s ∧ s [] 0 args (fun v _ _ => some v) = some (.bool true) := by
  unfold tabT at h
  split at h
  · rename_i b e
    subst h
    unfold tabS at e
    split at e
    · rename_i sq hs
      obtain ⟨s, h1, h2⟩ := DQS_ref (δ := dC) (r := AV.bool true) (tab_ref T) (tab_none T) n f sq hs
      exact ⟨s, h1, h2 _ _ _ _ _ _ (HQ.empty hW) (fun v q h b _ hk => hk) e⟩
    · cases e
  · cases h
def tabO (P : Program) (N W : Nat) (ok : List FuncId) (T : Tab) (n : Nat) (f : FuncId) (args : List AV) : Way3 :=
  match DQS mS P N W ok (TQs mS W T) n f with
  | some s => Way3.ofO (s (mkT none W (Nat.pow 4 W)) 0 args fun v _ _ => some (.val v))
  | none => .nil
theorem tabO_run {N W n f : Nat} {ok : List FuncId} {T : Tab} {args : List AV} {v : AV} {os : List (Nat × Bool)} {l : List Bool} (hW : 0 < W) (h : flwC (tabO P N W ok T n f args) os [] = some (v, l)) (hl : ∀ t ∈ l, t = true) : ∃ s, DD P N ok (TSs T) n f = some s ∧ s [] 0 args (fun v _ _ => some v) = some v := by
  have hd := (flwC_den _ _ _ _ _ h hl).1
  unfold tabO at hd
  split at hd
  · rename_i sq hs
    obtain ⟨s, h1, h2⟩ := DQS_ref (δ := dS) (r := v) (tab_ref T) (tab_none T) n f sq hs
    exact ⟨s, h1, h2 _ _ _ _ (fun v _ _ => some (.val v)) _ (HQ.empty hW) (fun v q h b _ hk => hk) hd⟩
  · cases hd

/-! ### What a closed run has laid -/
def tbI (l : List Int) (i : Nat) : Int := List.rec (motive := fun _ => Nat → Int) (fun _ => 0) (fun x _ ih i => Nat.rec (motive := fun _ => Int) x (fun p _ => ih p) i) l i
def tbB (l : List Bool) (i : Nat) : Bool := List.rec (motive := fun _ => Nat → Bool) (fun _ => false) (fun x _ ih i => Nat.rec (motive := fun _ => Bool) x (fun p _ => ih p) i) l i
def adrB (S : List Nm) (a b : Adr) : Bool :=
  match byL S a.nm with
  | some k => Nat.beq k.fam b.nm.fam && Nat.beq k.idx b.nm.idx && Nat.beq a.row b.row && Nat.beq a.col b.col
  | none => false
def listB (f : AV → AV → Bool) : List AV → List AV → Bool
  | [], [] => true
  | x :: l, y :: m => f x y && listB f l m
  | _, _ => false
def capB : Option Nat → Option Nat → Bool
  | none, none => true
  | some a, some b => Nat.beq a b
  | _, _ => false
def covA (S : List Nm) : Nat → AV → AV → Bool
  | _, .undef, _ => true
  | _, .cell, v => v.lone
  | _, .bool b, .bool c => b == c
  | _, .int k n, .int k' n' => eqK k k' && eqQ n n'
  | _, .str s, .str s' => s == s'
  | _, .ptr none, .ptr none => true
  | _, .ptr (some a), .ptr (some b) => adrB S a b
  | _, .slice a es n c, .slice b es' n' c' => adrB S a b && Nat.beq es es' && Nat.beq n n' && capB c c'
  | _, .nils, .nils => true
  | _, .eslice, .eslice => true
  | d + 1, .agg cs, .agg ds => listB (covA S d) cs ds
  | d + 1, .tuple cs, .tuple ds => listB (covA S d) cs ds
  | _, .nilIface, .nilIface => true
  | _, .nilFunc, .nilFunc => true
  | _, .func f, .func g => Nat.beq f g
  | _, _, _ => false
theorem adrB_eq {S : List Nm} {a b : Adr} (h : adrB S a b = true) : byL S a.nm = some b.nm ∧ a.row = b.row ∧ a.col = b.col := by
  unfold adrB at h
  split at h
  · rename_i k hk
    simp only [Bool.and_eq_true] at h
    obtain ⟨⟨⟨h1, h2⟩, h3⟩, h4⟩ := h
    exact ⟨by rw [hk, nm_ext (Nat.eq_of_beq_eq_true h1) (Nat.eq_of_beq_eq_true h2)], Nat.eq_of_beq_eq_true h3, Nat.eq_of_beq_eq_true h4⟩
  · cases h
theorem capB_eq {a b : Option Nat} (h : capB a b = true) : a = b := by
  cases a <;> cases b <;> first | rfl | cases h | exact congrArg some (Nat.eq_of_beq_eq_true h)
theorem listB_eq {f : AV → AV → Bool} {Q : AV → AV → Prop} (hf : ∀ x y, f x y = true → Q x y) : ∀ (l m : List AV), listB f l m = true → l.length = m.length ∧ ∀ i (h : i < l.length) (h' : i < m.length), Q l[i] m[i] := by
  intro l
  induction l with
  | nil => intro m h; cases m with
    | nil => exact ⟨rfl, fun i h => by simp at h⟩
    | cons y m => cases h
  | cons x l ih =>
    intro m h
    cases m with
    | nil => cases h
    | cons y m =>
      simp only [listB, Bool.and_eq_true] at h
      obtain ⟨h1, h2⟩ := ih m h.2
      refine ⟨by simp [h1], fun i a b => ?_⟩
      cases i with
      | zero => exact hf _ _ h.1
      | succ i => exact h2 i (by simpa using a) (by simpa using b)
theorem covA_ca {S : List Nm} : ∀ (d : Nat) (v' v : AV), covA S d v' v = true → CA (byL S) v' v := by
  intro d
  induction d with
  | zero =>
    intro v' v h
    unfold covA at h
    split at h <;> first
      | exact .undef _
      | exact .cell _ h
      | (have := eq_of_beq h; subst this; constructor)
      | (simp only [Bool.and_eq_true] at h; obtain ⟨h1, h2⟩ := h; have := eqK_eq h1; subst this; rw [eqQ_eq] at h2; have := eq_of_beq h2; subst this; constructor)
      | (obtain ⟨h1, h2, h3⟩ := adrB_eq h; exact .ptr _ _ h1 h2 h3)
      | (simp only [Bool.and_eq_true] at h; obtain ⟨⟨⟨h1, h2⟩, h3⟩, h4⟩ := h; obtain ⟨g1, g2, g3⟩ := adrB_eq h1; have := Nat.eq_of_beq_eq_true h2; subst this; have := Nat.eq_of_beq_eq_true h3; subst this; have := capB_eq h4; subst this; exact .slice _ _ _ _ _ g1 g2 g3)
      | (have := Nat.eq_of_beq_eq_true h; subst this; constructor)
      | (rename_i e; cases e; done)
      | constructor
      | (cases h; done)
  | succ d ih =>
    intro v' v h
    unfold covA at h
    split at h <;> first
      | exact .undef _
      | exact .cell _ h
      | (rename_i e; have e' := Nat.succ.inj e; subst e'; obtain ⟨h1, h2⟩ := listB_eq ih _ _ h; first | exact .agg _ _ h1 h2 | exact .tuple _ _ h1 h2)
      | (obtain ⟨h1, h2⟩ := listB_eq ih _ _ h; first | exact .agg _ _ h1 h2 | exact .tuple _ _ h1 h2)
      | (have := eq_of_beq h; subst this; constructor)
      | (simp only [Bool.and_eq_true] at h; obtain ⟨h1, h2⟩ := h; have := eqK_eq h1; subst this; rw [eqQ_eq] at h2; have := eq_of_beq h2; subst this; constructor)
      | (obtain ⟨h1, h2, h3⟩ := adrB_eq h; exact .ptr _ _ h1 h2 h3)
      | (simp only [Bool.and_eq_true] at h; obtain ⟨⟨⟨h1, h2⟩, h3⟩, h4⟩ := h; obtain ⟨g1, g2, g3⟩ := adrB_eq h1; have := Nat.eq_of_beq_eq_true h2; subst this; have := Nat.eq_of_beq_eq_true h3; subst this; have := capB_eq h4; subst this; exact .slice _ _ _ _ _ g1 g2 g3)
      | (have := Nat.eq_of_beq_eq_true h; subst this; constructor)
      | constructor
      | (cases h; done)
/-- For all rows. -/
def allN (n : Nat) (f : Nat → Bool) : Bool := Nat.rec (motive := fun _ => Bool) true (fun i ih => bif f i then ih else false) n
theorem allN_eq {f : Nat → Bool} : ∀ {n : Nat}, allN n f = true → ∀ i, i < n → f i = true := by
  intro n
  induction n with
  | zero => intro h i hi; omega
  | succ n ih =>
    intro h i hi
    have h : (bif f n then allN n f else false) = true := h
    cases hf : f n with
    | false => rw [hf] at h; cases h
    | true =>
      rw [hf, cond_true] at h
      by_cases e : i = n
      · subst e; exact hf
      · exact ih h i (by omega)
def covCs (S : List Nm) (n : Nat) : List Col → List Col → Bool
  | [], [] => true
  | c :: l, d :: m => bif allN n fun r => covA S 1 (c.at r) (d.at r) then covCs S n l m else false
  | _, _ => false
def covB (S : List Nm) (B' B : Blk) : Bool := bif Nat.ble B'.rows B.rows then covCs S B'.rows B'.cols B.cols else false
theorem covCs_eq {S : List Nm} {n : Nat} : ∀ (l m : List Col), covCs S n l m = true → l.length = m.length ∧ ∀ (i : Nat) (c d : Col) (r : Nat), l[i]? = some c → m[i]? = some d → r < n → CA (byL S) (c.at r) (d.at r) := by
  intro l
  induction l with
  | nil => intro m h; cases m with
    | nil => exact ⟨rfl, fun i c d r h => by simp at h⟩
    | cons y m => cases h
  | cons x l ih =>
    intro m h
    cases m with
    | nil => cases h
    | cons y m =>
      simp only [covCs] at h
      cases hb : allN n fun r => covA S 1 (x.at r) (y.at r) with
      | false => rw [hb] at h; cases h
      | true =>
        rw [hb, cond_true] at h
        obtain ⟨h1, h2⟩ := ih m h
        refine ⟨by simp [h1], fun i c d r a b hr => ?_⟩
        cases i with
        | zero =>
          simp only [List.getElem?_cons_zero, Option.some.injEq] at a b
          subst a; subst b
          exact covA_ca 1 _ _ (allN_eq hb r hr)
        | succ i => exact h2 i c d r (by simpa using a) (by simpa using b) hr
theorem covB_cb {S : List Nm} {B' B : Blk} (h : covB S B' B = true) : CB (byL S) B' B := by
  unfold covB at h
  cases hb : Nat.ble B'.rows B.rows with
  | false => rw [hb] at h; cases h
  | true =>
    rw [hb, cond_true] at h
    obtain ⟨h1, h2⟩ := covCs_eq _ _ h
    exact ⟨Nat.le_of_ble_eq_true hb, h1, h2⟩
def covBs (g : Gt) (S : List Nm) : List Blk → List Nm → Bool
  | [], [] => true
  | B' :: l, k :: m => match g k with
    | some B => bif covB S B' B then covBs g S l m else false
    | none => false
  | _, _ => false
theorem covBs_eq {g : Gt} {S : List Nm} : ∀ (l : List Blk) (m : List Nm), covBs g S l m = true → m.length = l.length ∧ ∀ (i : Nat) (B : Blk) (k : Nm), l[i]? = some B → m[i]? = some k → ∃ B1, g k = some B1 ∧ CB (byL S) B B1 := by
  intro l
  induction l with
  | nil => intro m h; cases m with
    | nil => exact ⟨rfl, fun i c d h => by simp at h⟩
    | cons y m => cases h
  | cons x l ih =>
    intro m h
    cases m with
    | nil => cases h
    | cons y m =>
      simp only [covBs] at h
      split at h
      · rename_i B hB
        cases hb : covB S x B with
        | false => rw [hb] at h; cases h
        | true =>
          rw [hb, cond_true] at h
          obtain ⟨h1, h2⟩ := ih m h
          refine ⟨by simp [h1], fun i c d a b => ?_⟩
          cases i with
          | zero =>
            simp only [List.getElem?_cons_zero, Option.some.injEq] at a b
            subst a; subst b
            exact ⟨B, hB, covB_cb hb⟩
          | succ i => exact h2 i c d (by simpa using a) (by simpa using b)
      · cases h
def notIn (k : Nm) : List Nm → Bool
  | [] => true
  | n :: t => bif Nat.beq k.fam n.fam && Nat.beq k.idx n.idx then false else notIn k t
def apartB : List Nm → Bool
  | [] => true
  | n :: t => bif notIn n t then apartB t else false
theorem notIn_eq {k : Nm} : ∀ {l : List Nm}, notIn k l = true → k ∉ l := by
  intro l
  induction l with
  | nil => intro _; simp
  | cons n t ih =>
    intro h
    simp only [notIn] at h
    cases hb : Nat.beq k.fam n.fam && Nat.beq k.idx n.idx with
    | true => rw [hb] at h; cases h
    | false =>
      rw [hb, cond_false] at h
      intro c
      rcases List.mem_cons.1 c with c | c
      · subst c; simp at hb
      · exact ih h c
theorem apartB_eq : ∀ {l : List Nm}, apartB l = true → ∀ (i j : Nat) (k : Nm), l[i]? = some k → l[j]? = some k → i = j := by
  intro l
  induction l with
  | nil => intro _ i j k h; simp at h
  | cons n t ih =>
    intro h i j k hi hj
    simp only [apartB] at h
    cases hb : notIn n t with
    | false => rw [hb] at h; cases h
    | true =>
      rw [hb, cond_true] at h
      have hn := notIn_eq hb
      cases i with
      | zero =>
        cases j with
        | zero => rfl
        | succ j =>
          simp only [List.getElem?_cons_zero, Option.some.injEq] at hi
          subst hi
          exact absurd (List.mem_of_getElem? (by simpa using hj)) hn
      | succ i =>
        cases j with
        | zero =>
          simp only [List.getElem?_cons_zero, Option.some.injEq] at hj
          subst hj
          exact absurd (List.mem_of_getElem? (by simpa using hi)) hn
        | succ j => exact congrArg (· + 1) (ih h i j k (by simpa using hi) (by simpa using hj))
/-- A closed run comes to this value and these blocks. -/
def laidB (P : Program) (N W : Nat) (ok : List FuncId) (T : Tab) (n : Nat) (f : FuncId) (args : List AV) (S : List Nm) (v : AV) (Bs : List Blk) : Bool :=
  match (DQS mC P N W ok (TQs mC W T) n f : Option (SpecQ (AV × Heap × Nat))) with
  | some s => (s (mkT none W (Nat.pow 4 W)) 0 args fun v1 q _ => bif apartB S && covA S 3 v v1 && covBs (getQ W q) S Bs S then some (.undef, [], 0) else none).isSome
  | none => false
theorem laid_ok {N W n f : Nat} {ok : List FuncId} {T : Tab} {args : List AV} {S : List Nm} {v : AV} {Bs : List Blk} (hok : okAll P ok = true) (hT : Sound P (TSs T : Specs (AV × Heap × Nat))) (hf : (TSs T f : Option (Spec (AV × Heap × Nat))) = none) (hW : 0 < W) (h : true = laidB P N W ok T n f args S v Bs) :
    ∃ s : Spec (AV × Heap × Nat), DD P N ok (TSs T) n f = some s ∧ SoundSpec P f s ∧ FreshOk s args v Bs := by
  unfold laidB at h
  split at h
  · rename_i sq hs
    obtain ⟨r, hr⟩ := Option.isSome_iff_exists.1 h.symm
    obtain ⟨s, h1, h2⟩ := DQS_ref (δ := dC) (r := r) (tab_ref T) (tab_none T) n f sq hs
    have hsound := DD_spec hok hT hf h1
    refine ⟨s, h1, hsound, ?_⟩
    open Classical in
    let Cov : AV → Heap → Prop := fun v1 h1 => (∀ (i j : Nat) (k : Nm), S[i]? = some k → S[j]? = some k → i = j) ∧ S.length = Bs.length ∧ CA (byL S) v v1 ∧ ∀ (i : Nat) (B : Blk) (k : Nm), Bs[i]? = some B → S[i]? = some k → ∃ B1, get h1 k = some B1 ∧ CB (byL S) B B1
    have hk := h2 _ _ _ _ _ (fun v1 h b => if Cov v1 h then some r else none) (HQ.empty hW) (fun v1 q h b H hk => by
      cases hb : apartB S && covA S 3 v v1 && covBs (getQ W q) S Bs S with
      | false => rw [hb] at hk; cases hk
      | true =>
        simp only [Bool.and_eq_true] at hb
        obtain ⟨⟨b1, b2⟩, b3⟩ := hb
        rw [H.get] at b3
        obtain ⟨c1, c2⟩ := covBs_eq _ _ b3
        exact if_pos ⟨apartB_eq b1, c1, covA_ca 3 _ _ b2, c2⟩) hr
    obtain ⟨q, hq, _⟩ := hsound.2.1 [] 0 args
    rw [hq] at hk
    cases q with
    | none => cases hk
    | some p =>
      simp only [Option.bind_some] at hk
      split at hk
      · rename_i hc
        obtain ⟨c1, c2, c3, c4⟩ := hc
        exact ⟨p.1, p.2.1, p.2.2, S, by rw [hq]; rfl, c1, c2, c3, c4⟩
      · cases hk
  · cases h
/-- A call without arguments. -/
def noArgs (v : AV) (Bs : List Blk) : List AV → Option (AV × List Blk) := fun args => match args with
  | [] => some (v, Bs)
  | _ => none
theorem laid_sound {N W n f : Nat} {ok : List FuncId} {T : Tab} {S : List Nm} {v : AV} {Bs : List Blk} (hok : okAll P ok = true) (hT : Sound P (TSs T : Specs (AV × Heap × Nat))) (hf : (TSs T f : Option (Spec (AV × Heap × Nat))) = none) (hW : 0 < W) (h : true = laidB P N W ok T n f [] S v Bs) :
    SoundSpec P f (entS (.blk (noArgs v Bs)) : Spec R) := by
  obtain ⟨s, _, h2, h3⟩ := laid_ok hok hT hf hW h
  refine fresh_sound h2 fun args v' Bs' hg => ?_
  unfold noArgs at hg
  split at hg
  · cases hg; exact ⟨rfl, h3⟩
  · cases hg
end
end Go.Proofs.YtipigcgegmedeaaGreat.Ev
