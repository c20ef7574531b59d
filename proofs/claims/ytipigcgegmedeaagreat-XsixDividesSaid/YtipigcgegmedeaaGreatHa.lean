/- The evaluator with contracts of loops; what a piece of code does to a few blocks, by names of its own (local contracts). -/
import Derived.Test.YtipigcgegmedeaaGreatGc
namespace Go.Proofs.YtipigcgegmedeaaGreat.Ev
open Go Go.RowKit
set_option linter.unusedVariables false
set_option linter.unusedSimpArgs false
noncomputable section
variable {R : Type} {P : Program} {r : R} {m : Nam} {w : World} {a : Act} {ts : List AV} {ds : List Deferred}

/-! ### From one store to another, some names fixed -/
structure TrF (F : Nm → Prop) (m : Nam) (h : Gt) (w : World) (m' : Nam) (h' : Gt) (w' : World) : Prop where
  ext : ∀ n L, F n → m n = some L → m' n = some L
  size : w.heap.size ≤ w'.heap.size
  keep : ∀ b, b < w.heap.size → (∀ n B L, h n = some B → m n = some L → L.b ≠ b) → w'.heap[b]? = w.heap[b]?
  old : ∀ n B L, h' n = some B → m' n = some L → L.b < w.heap.size → ∃ k B0 L0, h k = some B0 ∧ m k = some L0 ∧ L0.b = L.b
  os : w'.os = w.os
  tape : w'.tape = w.tape
  out : w'.output = w.output
theorem Tr.toF {F : Nm → Prop} {m h w m' h' w'} (t : Tr m h w m' h' w') : TrF F m h w m' h' w' := ⟨fun n L _ e => t.ext n L e, t.size, t.keep, t.old, t.os, t.tape, t.out⟩
theorem TrF.refl (F : Nm → Prop) (m : Nam) (h : Gt) (w : World) : TrF F m h w m h w := (Tr.refl m h w).toF
theorem TrF.trans {F : Nm → Prop} {m h w m1 h1 w1 m2 h2 w2} (a : TrF F m h w m1 h1 w1) (b : TrF F m1 h1 w1 m2 h2 w2) : TrF F m h w m2 h2 w2 := by
  refine ⟨fun n L f e => b.ext n L f (a.ext n L f e), Nat.le_trans a.size b.size, fun x hx hn => ?_, fun n B L g1 g2 g3 => ?_, b.os.trans a.os, b.tape.trans a.tape, b.out.trans a.out⟩
  · rw [b.keep x (Nat.lt_of_lt_of_le hx a.size) fun n B L g1 g2 e => ?_, a.keep x hx hn]
    obtain ⟨k, B0, L0, q1, q2, q3⟩ := a.old n B L g1 g2 (e ▸ hx)
    exact hn k B0 L0 q1 q2 (q3.trans e)
  · obtain ⟨k, B0, L0, q1, q2, q3⟩ := b.old n B L g1 g2 (Nat.lt_of_lt_of_le g3 a.size)
    obtain ⟨k', B1, L1, p1, p2, p3⟩ := a.old k B0 L0 q1 q2 (q3 ▸ g3)
    exact ⟨k', B1, L1, p1, p2, p3.trans q3⟩

/-! ### Code with contracts of loops -/
abbrev LSpec (R : Type) := List AV → Heap → Nat → KX R → Option R
abbrev LSpecs (R : Type) := Nat → Option (LSpec R)
def evX (P : Program) (D : Specs R) (n : Nat) (LD : LSpecs R) : Code → List AV → Heap → Nat → KX R → Option R
  | .skip, ts, h, b, K => K .normal ts h b
  | .region _ ops draw, ts, h, b, K => bif draw then (bif P.follows .mixedOrders then drawL P D ops b ops.toList 0 ts h (b + ops.size) [] (fun ts' h' B' F => bif drawOk ops b F then K .normal ts' h' B' else none) else none)
    else evL P D ops ops.toList ts h b (K .normal)
  | .seq x y, ts, h, b, K => evX P D n LD x ts h b (seqK (fun ts' h' b' => evX P D n LD y ts' h' b' K) K)
  | .cond c x y, ts, h, b, K => match evA ts c with
    | .bool t => bif t then evX P D n LD x (tell c true ts) h b K else evX P D n LD y (tell c false ts) h b K
    | _ => none
  | .block id x, ts, h, b, K => evX P D n LD x ts h b (blockK id K)
  | .loop x, ts, h, b, K => match LD (firstRegion x) with
    | some s => s ts h b K
    | none => loopE (evX P D n LD x) [] n ts h b K
  | .exit id, ts, h, b, K => K (.exit id) ts h b
  | .label _, ts, h, b, K => K .normal ts h b
  | .ret, ts, h, b, K => K .ret ts h b
  | _, _, _, _, _ => none
/-- The loops' bodies. -/
def loopsIn : Code → List Code
  | .seq x y => loopsIn x ++ loopsIn y
  | .cond _ x y => loopsIn x ++ loopsIn y
  | .block _ x => loopsIn x
  | .loop x => x :: loopsIn x
  | _ => []
def KOkF (F : Nm → Prop) (ds : List Deferred) (b0 : Nat) (Q : Exit → Act → World → Prop) (m : Nam) (h : Heap) (w : World) (K : KX R) (r : R) : Prop :=
  ∀ e ts' h' b' a' m' w', K e ts' h' b' = some r → b0 ≤ b' → TrF F m (get h) w m' (get h') w' → HR m' (fun f => b' ≤ f) (get h') w' → TR m' ts' a' → a'.defers = ds → Q e.real a' w'
/-- A loop's contract. -/
def SoundLoop (P : Program) (F : Nm → Prop) (x : Code) (s : LSpec R) : Prop :=
  ∀ b0 ds Q m h b w ts a K r, b0 ≤ b → HR m (fun f => b ≤ f) (get h) w → TR m ts a → a.defers = ds → s ts h b K = some r → KOkF F ds b0 Q m h w K r → (Code.loop x).wp P Q a w
def LoopsOk (P : Program) (F : Nm → Prop) (LD : LSpecs R) (l : List Code) : Prop := ∀ x ∈ l, ∀ s, LD (firstRegion x) = some s → SoundLoop P F x s
theorem above_id {b0 b : Nat} {m : Nam} {g : Gt} {w : World} (hb : b0 ≤ b) : HR m (above (fun f => b0 ≤ f) b0 b) g w ↔ HR m (fun f => b ≤ f) g w :=
  ⟨fun H => H.anti fun f hf => ⟨Nat.le_trans hb hf, .inr hf⟩, fun H => H.anti fun f hf => hf.2.elim (fun h => absurd h (Nat.not_lt.2 hf.1)) id⟩
theorem evX_wp {F : Nm → Prop} {D : Specs R} (hD : Sound P D) (n : Nat) (LD : LSpecs R) : ∀ (c : Code), LoopsOk P F LD (loopsIn c) → ∀ (b0 : Nat) (ts : List AV) (h : Heap) (b : Nat) (K : KX R) (m : Nam) (w : World) (a : Act) (Q : Exit → Act → World → Prop), b0 ≤ b → HR m (fun f => b ≤ f) (get h) w → TR m ts a → a.defers = ds → evX P D n LD c ts h b K = some r → KOkF F ds b0 Q m h w K r → c.wp P Q a w := by
  intro c
  induction c with
  | skip => intro hL b0 ts h b K m w a Q hb H T hd hk hq; exact wp_skip (hq .normal ts h b a m w hk hb (TrF.refl F m (get h) w) H T hd)
  | label l => intro hL b0 ts h b K m w a Q hb H T hd hk hq; exact wp_label (hq .normal ts h b a m w hk hb (TrF.refl F m (get h) w) H T hd)
  | exit id => intro hL b0 ts h b K m w a Q hb H T hd hk hq; exact wp_exit (hq (.exit id) ts h b a m w hk hb (TrF.refl F m (get h) w) H T hd)
  | ret => intro hL b0 ts h b K m w a Q hb H T hd hk hq; exact wp_ret (hq .ret ts h b a m w hk hb (TrF.refl F m (get h) w) H T hd)
  | region id ops draw =>
    intro hL b0 ts h b K m w a Q hb H T hd hk hq
    have hU : ∀ f, b0 ≤ f → b0 ≤ f := fun f hf => hf
    cases draw with
    | true =>
      simp only [evX, cond_true] at hk
      cases hm : P.follows .mixedOrders with
      | false => rw [hm] at hk; cases hk
      | true =>
        rw [hm] at hk
        exact draw_wp (U := fun f => b0 ≤ f) (KK := K .normal) hU hD hb hm ((above_id hb).2 H) T hd hk (fun ts' h' b' a' m' w' q1 q0 q2 q3 q4 q5 => hq .normal ts' h' b' a' m' w' q1 q0 q2.toF ((above_id q0).1 q3) q4 q5)
    | false =>
      simp only [evX, cond_false] at hk
      refine wp_region_list (list_wp (U := fun f => b0 ≤ f) (KK := K .normal) hU hD (fun ts' h' b' a' m' w' q1 q0 q2 q3 q4 q5 => hq .normal ts' h' b' a' m' w' q1 q0 q2.toF ((above_id q0).1 q3) q4 q5) _ ts h b a m w hb (Tr.refl m (get h) w) ((above_id hb).2 H) T hd hk)
  | seq x y ihx ihy =>
    intro hL b0 ts h b K m w a Q hb H T hd hk hq
    simp only [evX] at hk
    refine wp_seq (ihx (fun z hz => hL z (List.mem_append_left _ hz)) b0 ts h b _ m w a _ hb H T hd hk fun e ts' h' b' a' m' w' q1 q0 q2 q3 q4 q5 => ?_)
    cases e with
    | normal => exact ihy (fun z hz => hL z (List.mem_append_right _ hz)) b0 ts' h' b' K m' w' a' Q q0 q3 q4 q5 q1 fun e2 ts2 h2 b2 a2 m2 w2 p1 p0 p2 p3 p4 p5 => hq e2 ts2 h2 b2 a2 m2 w2 p1 p0 (q2.trans p2) p3 p4 p5
    | exit i => exact hq (.exit i) ts' h' b' a' m' w' q1 q0 q2 q3 q4 q5
    | ret => exact hq .ret ts' h' b' a' m' w' q1 q0 q2 q3 q4 q5
  | cond c x y ihx ihy =>
    intro hL b0 ts h b K m w a Q hb H T hd hk hq
    simp only [evX] at hk
    have hc := T.eval c
    split at hk
    · rename_i t ht
      rw [ht] at hc
      refine wp_cond (bool_real hc) ?_
      have ht' : tell c t ts = ts := by
        cases c with
        | tmp d => exact putAt_same ts d _ ht
        | _ => rfl
      cases t with
      | true => rw [ht'] at hk; exact ihx (fun z hz => hL z (List.mem_append_left _ hz)) b0 ts h b K m w a Q hb H T hd hk hq
      | false => rw [ht'] at hk; exact ihy (fun z hz => hL z (List.mem_append_right _ hz)) b0 ts h b K m w a Q hb H T hd hk hq
    · cases hk
  | block id x ihx =>
    intro hL b0 ts h b K m w a Q hb H T hd hk hq
    simp only [evX] at hk
    refine wp_block (ihx hL b0 ts h b _ m w a _ hb H T hd hk fun e ts' h' b' a' m' w' q1 q0 q2 q3 q4 q5 => ?_)
    cases e with
    | normal => exact hq .normal ts' h' b' a' m' w' q1 q0 q2 q3 q4 q5
    | exit i =>
      simp only [blockK, beq_cond] at q1
      simp only [Ex.real, Exit.inBlock]
      split at q1
      · rename_i hi; rw [if_pos hi]; exact hq .normal ts' h' b' a' m' w' q1 q0 q2 q3 q4 q5
      · rename_i hi; rw [if_neg hi]; exact hq (.exit i) ts' h' b' a' m' w' q1 q0 q2 q3 q4 q5
    | ret => exact hq .ret ts' h' b' a' m' w' q1 q0 q2 q3 q4 q5
  | loop x ihx =>
    intro hL b0 ts h b K m w a Q hb H T hd hk hq
    simp only [evX] at hk
    split at hk
    · rename_i s hs
      exact hL x (List.mem_cons_self ..) s hs b0 ds Q m h b w ts a K r hb H T hd hk hq
    · have ihx := ihx fun z hz => hL z (List.mem_cons_of_mem _ hz)
      suffices hr : ∀ k ts1 h1 b1 m1 w1 a1, b0 ≤ b1 → TrF F m (get h) w m1 (get h1) w1 → HR m1 (fun f => b1 ≤ f) (get h1) w1 → TR m1 ts1 a1 → a1.defers = ds → loopE (evX P D n LD x) [] k ts1 h1 b1 K = some r → Code.rounds P x Q k a1 w1 from
        wp_loop_rounds n (hr n ts h b m w a hb (TrF.refl F m (get h) w) H T hd hk)
      intro k
      induction k with
      | zero => intro ts1 h1 b1 m1 w1 a1 _ _ _ _ _ hk; simp [loopE] at hk
      | succ k ih =>
        intro ts1 h1 b1 m1 w1 a1 hb1 t1 H1 T1 d1 hk
        simp only [loopE, hd_eq, clearAll] at hk
        rw [rounds_succ]
        refine ihx b0 _ h1 b1 _ m1 w1 a1 _ hb1 H1 T1 d1 hk fun e ts' h' b' a' m' w' q1 q0 q2 q3 q4 q5 => ?_
        cases e with
        | normal => exact ih ts' h' b' m' w' a' q0 (t1.trans q2) q3 q4 q5 q1
        | exit i => exact hq (.exit i) ts' h' b' a' m' w' q1 q0 (t1.trans q2) q3 q4 q5
        | ret => exact hq .ret ts' h' b' a' m' w' q1 q0 (t1.trans q2) q3 q4 q5
  | _ => intro hL b0 ts h b K m w a Q hb H T hd hk hq; simp [evX] at hk

/-! ### A store of a few blocks -/
abbrev Blks := List (Option Blk)
def atN (Bs : Blks) : Gt := fun n => bif Nat.beq n.idx 0 then (match Bs[n.fam]? with
  | some x => x
  | none => none) else none
def heapOf : Nat → Blks → Heap
  | _, [] => []
  | i, some B :: t => (i, .one B) :: heapOf (i + 1) t
  | i, none :: t => (i, .gone) :: heapOf (i + 1) t
theorem fam_heapOf : ∀ (Bs : Blks) (i f : Nat), fam (heapOf i Bs) f = if f < i then none else (Bs[f - i]?).map fun x => match x with
    | some B => Fam.one B
    | none => .gone := by
  intro Bs
  induction Bs with
  | nil => intro i f; simp [heapOf, fam]
  | cons x t ih =>
    intro i f
    have key : ∀ F, fam ((i, F) :: heapOf (i + 1) t) f = if i = f then some F else fam (heapOf (i + 1) t) f := fun F => by simp only [fam, sel_eq, beq_cond]
    have : fam (heapOf i (x :: t)) f = if i = f then some (match x with
        | some B => Fam.one B
        | none => .gone) else fam (heapOf (i + 1) t) f := by cases x <;> exact key _
    rw [this, ih]
    by_cases h1 : i = f
    · subst h1; simp
    · rw [if_neg h1]
      by_cases h2 : f < i
      · rw [if_pos h2, if_pos (by omega)]
      · rw [if_neg h2, if_neg (by omega)]
        have : f - i = (f - (i + 1)) + 1 := by omega
        rw [this, List.getElem?_cons_succ]
theorem get_heapOf (Bs : Blks) : get (heapOf 0 Bs) = atN Bs := by
  funext n
  unfold get atN
  rw [fam_heapOf, if_neg (by omega), Nat.sub_zero, beq_cond]
  cases Bs[n.fam]? with
  | none => simp
  | some x =>
    cases x with
    | none => simp [Fam.get]
    | some B => simp only [Option.map_some, Fam.get, sel_eq, beq_cond]
theorem atN_some {Bs : Blks} {n : Nm} {B : Blk} (h : atN Bs n = some B) : n.idx = 0 ∧ Bs[n.fam]? = some (some B) := by
  unfold atN at h
  rw [beq_cond] at h
  split at h
  · rename_i h0
    refine ⟨h0, ?_⟩
    split at h
    · rename_i x hx; rw [hx, h]
    · cases h
  · cases h

theorem wp_imp {c : Code} {Q Q' : Exit → Act → World → Prop} (h : c.wp P Q a w) (hq : ∀ e a' w', Q e a' w' → Q' e a' w') : c.wp P Q' a w := by
  intro b k cs
  obtain ⟨e, a', w', h1, h2⟩ := h b k cs
  exact ⟨e, a', w', hq _ _ _ h1, h2⟩

/-! ### What a code does to a few blocks -/
abbrev Fix (k : Nat) : Nm → Prop := fun n => n.fam < k ∧ n.idx = 0
def CodeLoc (P : Program) (k : Nat) (c : Code) (ts0 : List AV) (Bs0 : Blks) (e : Ex) (ts1 : List AV) (Bs1 : Blks) : Prop :=
  ∀ m w a, HR m (fun f => Bs0.length ≤ f) (atN Bs0) w → TR m ts0 a → c.wp P (fun e' a' w' => e' = e.real ∧ a'.defers = a.defers ∧
    ∃ m', TrF (Fix k) m (atN Bs0) w m' (atN Bs1) w' ∧ HR m' (fun f => Bs1.length ≤ f) (atN Bs1) w' ∧ TR m' ts1 a') a w
/-- A loop, by what its body does. -/
theorem loop_loc {γ : Type} {k : Nat} {x : Code} (tsI : γ → List AV) (BsI : γ → Blks) (eF : γ → Ex) (tsF : γ → List AV) (BsF : γ → Blks) (inv : γ → Prop) (μ : γ → Nat)
    (h : ∀ g, inv g → (∃ g', inv g' ∧ μ g' < μ g ∧ eF g' = eF g ∧ tsF g' = tsF g ∧ BsF g' = BsF g ∧ CodeLoc P k x (tsI g) (BsI g) .normal (tsI g') (BsI g')) ∨ (eF g ≠ .normal ∧ CodeLoc P k x (tsI g) (BsI g) (eF g) (tsF g) (BsF g))) :
    ∀ g, inv g → CodeLoc P k (.loop x) (tsI g) (BsI g) (eF g) (tsF g) (BsF g) := by
  intro g hg m w a H T
  refine wp_loop_rounds (μ g + 1) ?_
  suffices hr : ∀ (j : Nat) (g' : γ) m1 w1 a1, μ g' < j → inv g' → eF g' = eF g → tsF g' = tsF g → BsF g' = BsF g → a1.defers = a.defers → TrF (Fix k) m (atN (BsI g)) w m1 (atN (BsI g')) w1 → HR m1 (fun f => (BsI g').length ≤ f) (atN (BsI g')) w1 → TR m1 (tsI g') a1 →
      Code.rounds P x (fun e' a' w' => e' = (eF g).real ∧ a'.defers = a.defers ∧ ∃ m', TrF (Fix k) m (atN (BsI g)) w m' (atN (BsF g)) w' ∧ HR m' (fun f => (BsF g).length ≤ f) (atN (BsF g)) w' ∧ TR m' (tsF g) a') j a1 w1 from
    hr _ g m w a (Nat.lt_succ_self _) hg rfl rfl rfl rfl (TrF.refl _ _ _ _) H T
  intro j
  induction j with
  | zero => intro g' m1 w1 a1 hj; omega
  | succ j ih =>
    intro g' m1 w1 a1 hj hi h1 h2 h3 hd t1 H1 T1
    rw [rounds_succ]
    rcases h g' hi with ⟨g2, i2, l2, f1, f2, f3, hc⟩ | ⟨hn, hc⟩
    · refine wp_imp (hc m1 w1 a1 H1 T1) fun e a2 w2 hq => ?_
      obtain ⟨rfl, d2, m2, t2, H2, T2⟩ := hq
      exact ih g2 m2 w2 a2 (by omega) i2 (f1.trans h1) (f2.trans h2) (f3.trans h3) (d2.trans hd) (t1.trans t2) H2 T2
    · refine wp_imp (hc m1 w1 a1 H1 T1) fun e a2 w2 hq => ?_
      obtain ⟨rfl, d2, m2, t2, H2, T2⟩ := hq
      rw [h1] at hn ⊢
      rw [h3] at t2 H2
      rw [h2] at T2
      have fin : (eF g).real = (eF g).real ∧ a2.defers = a.defers ∧ ∃ m', TrF (Fix k) m (atN (BsI g)) w m' (atN (BsF g)) w2 ∧ HR m' (fun f => (BsF g).length ≤ f) (atN (BsF g)) w2 ∧ TR m' (tsF g) a2 := ⟨rfl, d2.trans hd, m2, t1.trans t2, H2, T2⟩
      revert hn fin
      generalize eF g = eg
      intro hn fin
      cases eg with
      | normal => exact absurd rfl hn
      | exit i => exact fin
      | ret => exact fin

/-! ### A store that covers a few blocks, by a list of names -/
def byN (S : List Nm) : Sg := byL S
/-- The slots that are told, the blocks that are told. -/
structure Cov (S : List Nm) (vs0 : List AV) (Bs0 : Blks) (vs : List AV) (Bs : Blks) : Prop where
  len : S.length = Bs0.length
  apart : ∀ (i j : Nat) (k : Nm), S[i]? = some k → S[j]? = some k → i = j
  vals : ∀ (i : Nat) (v0 : AV), vs0[i]? = some v0 → ∃ v, vs[i]? = some v ∧ CA (byL S) v0 v
  blks : ∀ (i : Nat) (B0 : Blk), Bs0[i]? = some (some B0) → ∃ B, Bs[i]? = some (some B) ∧ CB (byL S) B0 B
theorem byL_some {S : List Nm} {n k : Nm} (h : byL S n = some k) : n.idx = 0 ∧ S[n.fam]? = some k := by
  unfold byL at h
  rw [beq_cond] at h
  split at h
  · exact ⟨by assumption, h⟩
  · cases h
theorem Cov.hr {S : List Nm} {vs0 vs : List AV} {Bs0 : Blks} {g : Gt} (c : Cov S vs0 Bs0 vs (S.map g)) {U : Nat → Prop} (H : HR m U g w) : HR (nam (byL S) m) (fun f => Bs0.length ≤ f) (atN Bs0) w := by
  refine H.cover (fun n n' k h h' => ?_) (fun n B' h => ?_) (fun n k h => ?_)
  · obtain ⟨a1, a2⟩ := byL_some h
    obtain ⟨b1, b2⟩ := byL_some h'
    exact nm_ext (c.apart _ _ _ a2 b2) (a1.trans b1.symm)
  · obtain ⟨h0, h1⟩ := atN_some h
    obtain ⟨B, b1, b2⟩ := c.blks _ _ h1
    rw [List.getElem?_map] at b1
    cases hk : S[n.fam]? with
    | none => rw [hk] at b1; cases b1
    | some k =>
      rw [hk] at b1
      simp only [Option.map_some, Option.some.injEq] at b1
      exact ⟨k, B, by simp only [byL, h0, hk]; rfl, b1, b2⟩
  · obtain ⟨a1, a2⟩ := byL_some h
    have := (List.getElem?_eq_some_iff.1 a2).1
    have := c.len
    omega
/-- Names at the front stay. -/
def fixB (k : Nat) (S : List Nm) : Bool := Nat.ble k S.length && (S.take k == (List.range k).map fun i => (⟨i, 0⟩ : Nm))
theorem fix_eq {k : Nat} {S : List Nm} (h : fixB k S = true) (i : Nat) (hi : i < k) : S[i]? = some ⟨i, 0⟩ := by
  unfold fixB at h
  rw [Bool.and_eq_true] at h
  have h2 := eq_of_beq h.2
  have h1 := Nat.le_of_ble_eq_true h.1
  have : (S.take k)[i]? = S[i]? := by rw [List.getElem?_take, if_pos hi]
  rw [← this, h2, List.getElem?_map, List.getElem?_range hi]
  rfl
theorem Cov.ext {S : List Nm} {k : Nat} (hf : fixB k S = true) (n : Nm) (L : Loc) (hn : Fix k n) (h : m n = some L) : nam (byL S) m n = some L := by
  obtain ⟨h1, h2⟩ := hn
  have e := fix_eq hf n.fam h1
  have : byL S n = some n := by
    unfold byL
    rw [beq_cond, if_pos h2, e]
    exact congrArg some (nm_ext rfl h2.symm)
  simp only [nam, this, Option.bind_some, h]
theorem Cov.tr {S : List Nm} {vs0 vs : List AV} {Bs0 : Blks} {g : Gt} (c : Cov S vs0 Bs0 vs (S.map g)) {k : Nat} (hf : fixB k S = true) (w : World) : TrF (Fix k) m g w (nam (byL S) m) (atN Bs0) w := by
  refine ⟨fun n L hn h => Cov.ext hf n L hn h, Nat.le_refl _, fun _ _ _ => rfl, fun n B L h1 h2 _ => ?_, rfl, rfl, rfl⟩
  obtain ⟨h0, h3⟩ := atN_some h1
  obtain ⟨B', b1, b2⟩ := c.blks _ _ h3
  rw [List.getElem?_map] at b1
  cases hk : S[n.fam]? with
  | none => rw [hk] at b1; cases b1
  | some q =>
    rw [hk] at b1
    simp only [Option.map_some, Option.some.injEq] at b1
    have : byL S n = some q := by unfold byL; rw [beq_cond, if_pos h0, hk]
    simp only [nam, this, Option.bind_some] at h2
    exact ⟨q, B', L, b1, h2, rfl⟩

/-- A frame of which a few slots are told. -/
def mkTs (N : Nat) (l : List (Nat × AV)) : List AV := l.foldl (fun ts p => putAt ts p.1 p.2) (List.replicate N .undef)
theorem mkTs_tr {m : Nam} {a : Act} (l : List (Nat × AV)) {N : Nat} (hN : a.tmps.size = N) (h : ∀ p ∈ l, ∀ x, a.tmps[p.1]? = some x → VR m p.2 x) : TR m (mkTs N l) a := by
  suffices hs : ∀ (l : List (Nat × AV)) (ts : List AV), TR m ts a → (∀ p ∈ l, ∀ x, a.tmps[p.1]? = some x → VR m p.2 x) → TR m (l.foldl (fun ts p => putAt ts p.1 p.2) ts) a from
    hs l _ ⟨by simp [hN], fun i h1 h2 => by simp only [List.getElem_replicate]; exact .undef _⟩ h
  intro l
  induction l with
  | nil => intro ts T _; exact T
  | cons p l ih =>
    intro ts T h
    refine ih _ ⟨by rw [putAt_len]; exact T.1, fun i h1 h2 => ?_⟩ fun q hq => h q (List.mem_cons_of_mem _ hq)
    rw [putAt_get]
    split
    · rename_i e
      subst e
      exact h p (List.mem_cons_self ..) _ (by simp [h2])
    · exact T.2 i (by rw [putAt_len] at h1; exact h1) h2
/-- What a run is asked for at its end: the exit, some slots, some blocks. -/
def probe (N : Nat) (idx : List Nat) (S : List Nm) : KX (Ex × List AV × Blks) := fun e ts h b => bif Nat.beq ts.length N then some (e, idx.map (nth ts), S.map (get h)) else none
theorem nth_tr (T : TR m ts a) {i : Nat} {x : Value} (hx : a.tmps[i]? = some x) : VR m (nth ts i) x := by
  have hi : i < a.tmps.size := (Array.getElem?_eq_some_iff.1 hx).1
  have h2 := T.2 i (T.1 ▸ hi) hi
  rw [nth_lt (T.1 ▸ hi)]
  have : a.tmps[i] = x := by simpa [hi] using hx
  rw [← this]; exact h2
/-- A code's local contract, by one run. -/
theorem code_loc {D : Specs (Ex × List AV × Blks)} (hD : Sound P D) {n k N : Nat} {LD : LSpecs (Ex × List AV × Blks)} {c : Code} (hL : LoopsOk P (Fix k) LD (loopsIn c)) {ts0 : List AV} {Bs0 Bs1 Bs : Blks} {idx : List Nat} {S : List Nm} {vs1 vs : List AV} {e : Ex}
    (hr : evX P D n LD c ts0 (heapOf 0 Bs0) Bs0.length (probe N idx S) = some (e, vs, Bs)) (hc : Cov S vs1 Bs1 vs Bs) (hf : fixB k S = true) : CodeLoc P k c ts0 Bs0 e (mkTs N (idx.zip vs1)) Bs1 := by
  intro m w a H T
  rw [← get_heapOf] at H
  refine evX_wp hD n LD c hL Bs0.length ts0 (heapOf 0 Bs0) Bs0.length _ m w a _ (Nat.le_refl _) H T rfl hr fun e' ts' h' b' a' m' w' q1 q0 q2 q3 q4 q5 => ?_
  unfold probe at q1
  cases hN : Nat.beq ts'.length N with
  | false => rw [hN] at q1; cases q1
  | true =>
    rw [hN] at q1
    simp only [cond_true, Option.some.injEq, Prod.mk.injEq] at q1
    obtain ⟨rfl, rfl, rfl⟩ := q1
    have hN := Nat.eq_of_beq_eq_true hN
    rw [get_heapOf] at q2
    refine ⟨rfl, q5, _, q2.trans (hc.tr hf w'), hc.hr q3, mkTs_tr _ (q4.1.symm.trans hN) fun p hp x hx => ?_⟩
    obtain ⟨j, hj, hj'⟩ := List.getElem_of_mem hp
    rw [List.getElem_zip] at hj'
    have l1 : j < idx.length := by rw [List.length_zip] at hj; omega
    have l2 : j < vs1.length := by rw [List.length_zip] at hj; omega
    have e1 : p.1 = idx[j] := by rw [← hj']
    have e2 : p.2 = vs1[j] := by rw [← hj']
    obtain ⟨v, v1, v2⟩ := hc.vals j vs1[j] (List.getElem?_eq_getElem l2)
    rw [List.getElem?_map, List.getElem?_eq_getElem l1] at v1
    simp only [Option.map_some, Option.some.injEq] at v1
    subst v1
    rw [e2]
    exact v2.vr (nth_tr q4 (by rw [← e1]; exact hx))
def mx (a b : Nat) : Nat := bif Nat.ble a b then b else a
theorem mx_le (a b : Nat) : a ≤ mx a b ∧ b ≤ mx a b := by
  unfold mx
  by_cases c : a ≤ b
  · rw [Nat.ble_eq_true_of_le c]; exact ⟨c, Nat.le_refl _⟩
  · cases h : Nat.ble a b with
    | true => exact absurd (Nat.le_of_ble_eq_true h) c
    | false => exact ⟨Nat.le_refl _, Nat.le_of_lt (Nat.lt_of_not_le c)⟩
/-- A loop's contract at one place: the state there covers what is told; the state behind it is what is told. -/
def jumpS (S : List Nm) (idx : List Nat) (N : Nat) (vs0 : List AV) (Bs0 : Blks) (e1 : Ex) (ts1 : List AV) (Bs1 : Blks) : LSpec R := fun ts h b K =>
  open Classical in
  if Nat.beq ts.length N = true ∧ Cov S vs0 Bs0 (idx.map (nth ts)) (S.map (get h)) then K e1 ts1 (heapOf 0 Bs1) (mx b Bs1.length) else none
theorem jump_sound {S : List Nm} {idx : List Nat} {N k : Nat} {vs0 : List AV} {Bs0 Bs1 : Blks} {e1 : Ex} {ts1 : List AV} {x : Code} (hx : CodeLoc P k (.loop x) (mkTs N (idx.zip vs0)) Bs0 e1 ts1 Bs1) (hf : fixB k S = true) : SoundLoop P (Fix k) x (jumpS S idx N vs0 Bs0 e1 ts1 Bs1 : LSpec R) := by
  intro b0 ds Q m h b w ts a K r hb H T hd hk hq
  unfold jumpS at hk
  split at hk
  · rename_i hc
    obtain ⟨hN, hc⟩ := hc
    have hN := Nat.eq_of_beq_eq_true hN
    refine wp_imp (Q := fun e' a' w' => e' = e1.real ∧ a'.defers = a.defers ∧ ∃ m', TrF (Fix k) (nam (byL S) m) (atN Bs0) w m' (atN Bs1) w' ∧ HR m' (fun f => Bs1.length ≤ f) (atN Bs1) w' ∧ TR m' ts1 a') (hx (nam (byL S) m) w a (hc.hr H) (mkTs_tr _ (T.1.symm.trans hN) fun p hp z hz => ?_)) fun e' a' w' hh => ?_
    · obtain ⟨j, hj, hj'⟩ := List.getElem_of_mem hp
      rw [List.getElem_zip] at hj'
      have l1 : j < idx.length := by rw [List.length_zip] at hj; omega
      have l2 : j < vs0.length := by rw [List.length_zip] at hj; omega
      have e1 : p.1 = idx[j] := by rw [← hj']
      have e2 : p.2 = vs0[j] := by rw [← hj']
      obtain ⟨v, v1, v2⟩ := hc.vals j vs0[j] (List.getElem?_eq_getElem l2)
      rw [List.getElem?_map, List.getElem?_eq_getElem l1] at v1
      simp only [Option.map_some, Option.some.injEq] at v1
      subst v1
      rw [e2]
      exact v2.vr (nth_tr T (by rw [← e1]; exact hz))
    · obtain ⟨rfl, d', m', t', H', T'⟩ := hh
      have t0 := hc.tr (m := m) hf w
      have hl := mx_le b Bs1.length
      refine hq e1 ts1 (heapOf 0 Bs1) (mx b Bs1.length) a' m' w' hk (Nat.le_trans hb hl.1) ?_ ?_ T' (d'.trans hd)
      · rw [get_heapOf]; exact t0.trans t'
      · rw [get_heapOf]; exact H'.anti fun f hf => Nat.le_trans hl.2 hf
  · cases hk
end
end Go.Proofs.YtipigcgegmedeaaGreat.Ev
