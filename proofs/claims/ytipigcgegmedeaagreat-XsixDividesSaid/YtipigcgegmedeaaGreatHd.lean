/- Local contracts: closed ones by a test; conditions one by one; a law's call. -/
import Derived.Test.YtipigcgegmedeaaGreatHc
namespace Go.Proofs.YtipigcgegmedeaaGreat.Ev
open Go Go.RowKit
set_option linter.unusedVariables false
set_option linter.unusedSimpArgs false
noncomputable section
variable {R : Type} {P : Program}

/-- All of them hold. -/
def AllT : List Bool → Prop
  | [] => True
  | c :: t => c = true ∧ AllT t
theorem AllT.mem : ∀ {l : List Bool}, AllT l → ∀ t ∈ l, t = true := by
  intro l
  induction l with
  | nil => intro _ t h; simp at h
  | cons c l ih =>
    intro h t ht
    rcases List.mem_cons.1 ht with e | e
    · rw [e]; exact h.1
    · exact ih h.2 t e
def lenB (Bs : Blks) (S : List Nm) : Bool := Nat.beq S.length Bs.length
def optB (S : List Nm) : Option Blk → Option Blk → Bool
  | some B0, some B => covB S B0 B
  | none, _ => true
  | some _, none => false
def blksB (S : List Nm) : Blks → Blks → Bool
  | [], _ => true
  | x :: l, y :: m => bif optB S x y then blksB S l m else false
  | _ :: _, [] => false
theorem blksB_eq {S : List Nm} : ∀ (l m : Blks), blksB S l m = true → ∀ (i : Nat) (B0 : Blk), l[i]? = some (some B0) → ∃ B, m[i]? = some (some B) ∧ CB (byL S) B0 B := by
  intro l
  induction l with
  | nil => intro m _ i B0 h; simp at h
  | cons x l ih =>
    intro m h i B0 hi
    cases m with
    | nil => cases h
    | cons y m =>
      simp only [blksB] at h
      cases hb : optB S x y with
      | false => rw [hb] at h; cases h
      | true =>
        rw [hb, cond_true] at h
        cases i with
        | zero =>
          simp only [List.getElem?_cons_zero, Option.some.injEq] at hi
          subst hi
          cases y with
          | none => cases hb
          | some B => exact ⟨B, rfl, covB_cb hb⟩
        | succ i => simpa using ih m h i B0 (by simpa using hi)
/-- A closed run over a few blocks comes to this. -/
def locB (P : Program) (N W : Nat) (ok : List FuncId) (T : Tb) (n : Nat) (f : FuncId) (args0 : List AV) (Bs0 : Blks) (k : Nat) (S : List Nm) (v0 : AV) (Bs1 : Blks) : Bool :=
  match flw3 (locQ P N W ok T n f args0 Bs0 S) [] [] with
  | some ((v, Bs), []) => fixB k S && apartB S && Nat.beq S.length Bs1.length && covA S 3 v0 v && blksB S Bs1 Bs
  | _ => false
theorem cov_of {S : List Nm} {v0 v : AV} {Bs1 Bs : Blks} (h1 : apartB S = true) (h2 : Nat.beq S.length Bs1.length = true) (h3 : CA (byL S) v0 v) (h4 : blksB S Bs1 Bs = true) : Cov S [v0] Bs1 [v] Bs :=
  ⟨Nat.eq_of_beq_eq_true h2, apartB_eq h1, fun i x hi => by
    cases i with
    | zero => simp only [List.getElem?_cons_zero, Option.some.injEq] at hi; subst hi; exact ⟨v, rfl, h3⟩
    | succ i => simp at hi, blksB_eq _ _ h4⟩
theorem locB_ok {N W n f k : Nat} {ok : List FuncId} {T : Tb} {args0 : List AV} {Bs0 Bs1 : Blks} {S : List Nm} {v0 : AV} (hok : okAll P ok = true) (hT : Sound P (BSs T : Specs (AV × Blks))) (hf : (BSs T f : Option (Spec (AV × Blks))) = none) (h : true = locB P N W ok T n f args0 Bs0 k S v0 Bs1) : LocOk P k f args0 Bs0 v0 Bs1 := by
  unfold locB at h
  split at h
  · rename_i v Bs hr
    have h := h.symm
    simp only [Bool.and_eq_true] at h
    obtain ⟨⟨⟨⟨h1, h2⟩, h3⟩, h4⟩, h5⟩ := h
    exact loc_of_run hok hT hf hr (fun t ht => by simp at ht) (cov_of h2 h3 (covA_ca 3 _ _ h4) h5) h1
  · cases h
/-- A law's call. -/
theorem law_of_loc {f : FuncId} {args : List AV} {xs : Array Value} {b : Bool} (h : LocOk P 0 f args [] (.bool b) []) (hc : CR (fun _ => none) args xs.toList) (w : World) :
    Calls P f xs w fun e w' => e = .returned (.bool b) ∧ Below w.heap.size w w' := by
  have H : HR (fun _ => none) (fun f => ([] : Blks).length ≤ f) (atN []) w := ⟨fun n B h => by obtain ⟨_, h⟩ := atN_some h; simp at h, fun n n' B B' L L' h => by obtain ⟨_, h⟩ := atN_some h; simp at h, fun n L h => by cases h⟩
  refine Calls.mono (h _ w xs H hc) fun e w' he => ?_
  obtain ⟨x, m', rfl, t, H', V⟩ := he
  have hx := bool_real V
  subst hx
  exact ⟨rfl, t.os, t.tape, t.out, t.size, fun k hk => t.keep k hk fun n B L g => by obtain ⟨_, g⟩ := atN_some g; simp at g⟩
/-- What is known of functions that lay blocks, given arguments without addresses: by a list. -/
structure Row where
  arg : AV
  v : AV
  news : List Blk
def rowsG : List Row → (AV → W3 Frm) → Gt → List AV → W3 Frm
  | [], k => fun _ args => match args with
    | [x] => k x
    | _ => .nil
  | r :: t, k => fun g args => match args with
    | [x] => bif eqA 3 x r.arg then .val ⟨[], [x], [], r.v, [], r.news, []⟩ else rowsG t k g args
    | _ => .nil
theorem frm_fresh {f : FuncId} {g : Gt} {x : AV} {v : AV} {news : List Blk} {d : Nat} (hx : flat d x = true) (h : LocOk P 0 f [x] [] v (news.map some)) : FrmOk P f g [x] ⟨[], [x], [], v, [], news, []⟩ := by
  refine ⟨by simpa [Frm.ends] using h, rfl, rfl, rfl, fun i j k h => by simp at h, rfl, fun i a b => ?_, fun i n h => by simp at h, fun i h => by simp at h, fun i n B B0 h => by simp at h⟩
  have : i = 0 := by simpa using a
  subst this
  exact flat_ca d x hx
where
  flat_ca (d : Nat) (x : AV) (hx : flat d x = true) : CA (byL []) x x := by
    induction d generalizing x with
    | zero =>
      cases x with
      | ptr a => cases a with
        | none => exact .nilp
        | some a => simp [flat] at hx
      | slice a es n c => simp [flat] at hx
      | agg cs => simp [flat] at hx
      | tuple cs => simp [flat] at hx
      | iface t v => simp [flat] at hx
      | undef => exact .undef _
      | cell => exact .cell _ rfl
      | _ => constructor
    | succ d ih =>
      cases x with
      | ptr a => cases a with
        | none => exact .nilp
        | some a => simp [flat] at hx
      | slice a es n c => simp [flat] at hx
      | agg cs => simp only [flat, List.all_eq_true] at hx; exact .agg cs cs rfl fun i a b => ih _ (hx _ (List.getElem_mem _))
      | tuple cs => simp only [flat, List.all_eq_true] at hx; exact .tuple cs cs rfl fun i a b => ih _ (hx _ (List.getElem_mem _))
      | iface t v => simp only [flat] at hx; exact .iface t v v (ih _ hx)
      | undef => exact .undef _
      | cell => exact .cell _ rfl
      | _ => constructor
theorem rowsG_ok {f : FuncId} {k : AV → W3 Frm} : ∀ {l : List Row}, (∀ r ∈ l, LocOk P 0 f [r.arg] [] r.v (r.news.map some)) → (∀ g x q, (k x).den = some q → FrmOk P f g [x] q) → ∀ g args q, (rowsG l k g args).den = some q → FrmOk P f g args q := by
  intro l
  induction l with
  | nil =>
    intro _ hk g args q h
    unfold rowsG at h
    split at h
    · exact hk g _ q h
    · cases h
  | cons r t ih =>
    intro hl hk g args q h
    unfold rowsG at h
    split at h
    · rename_i x
      cases hb : eqA 3 x r.arg with
      | true =>
        rw [hb, cond_true] at h
        have h : some _ = some q := h
        cases h
        obtain ⟨rfl, e⟩ := eqA_eq 3 x r.arg hb
        exact frm_fresh e (hl r (List.mem_cons_self ..))
      | false =>
        rw [hb, cond_false] at h
        exact ih (fun r hr => hl r (List.mem_cons_of_mem _ hr)) hk g _ q h
    · cases h

/-! ### Columns of a run's blocks -/
def runB {α : Type} (r : Option ((α × Blks) × List Bool)) (i : Nat) : Blk := match r with
  | some ((_, Bs), _) => (match Bs[i]? with
    | some (some B) => B
    | _ => ⟨0, [], 0⟩)
  | none => ⟨0, [], 0⟩
def colI (B : Blk) (c : Nat) : Nat → Int := match B.cols[c]? with
  | some (.ints _ f) => f
  | _ => fun _ => 0
theorem cb_ints {σ : Sg} {k : IntKind} {f g : Nat → Int} {n n' s s' : Nat} (hn : n ≤ n') (h : ∀ r, r < n → f r = g r) : CB σ ⟨n, [.ints k f], s⟩ ⟨n', [.ints k g], s'⟩ :=
  ⟨hn, rfl, fun i c' c r a b hr => by
    cases i with
    | zero =>
      simp only [List.getElem?_cons_zero, Option.some.injEq] at a b
      subst a; subst b
      show CA σ (.int k (f r)) (.int k (g r))
      rw [h r hr]; exact .int _ _
    | succ i => simp at a⟩
theorem cb_same {σ : Sg} {k : IntKind} {f : Nat → Int} {n s s' : Nat} : CB σ ⟨n, [.ints k f], s⟩ ⟨n, [.ints k f], s'⟩ := cb_ints (Nat.le_refl _) fun _ _ => rfl
theorem map_range {f g : Nat → Int} {n : Nat} (h : (List.range n).map f = (List.range n).map g) (r : Nat) (hr : r < n) : f r = g r := by
  have : ((List.range n).map f)[r]? = ((List.range n).map g)[r]? := by rw [h]
  simpa [List.getElem?_map, List.getElem?_range hr] using this

/-! ### Loops of a function, each at one place -/
theorem mkTs_len (N : Nat) : ∀ (l : List (Nat × AV)), (mkTs N l).length = N := by
  intro l
  suffices h : ∀ (l : List (Nat × AV)) (ts : List AV), (l.foldl (fun ts p => putAt ts p.1 p.2) ts).length = ts.length from (h l _).trans (by simp)
  intro l
  induction l with
  | nil => intro ts; rfl
  | cons p l ih => intro ts; rw [List.foldl_cons, ih, putAt_len]
theorem cov_flat {d : Nat} {vs : List AV} (h : vs.all (flat d) = true) : Cov [] vs [] vs [] :=
  ⟨rfl, fun i j k h => by simp at h, fun i v0 hi => ⟨v0, hi, frm_fresh.flat_ca d v0 (List.all_eq_true.1 h _ (List.mem_of_getElem? hi))⟩, fun i B0 hi => by simp at hi⟩
structure Jp where
  S : List Nm
  idx : List Nat
  N : Nat
  vs0 : List AV
  Bs0 : Blks
  e1 : Ex
  ts1 : List AV
  Bs1 : Blks
def jpS (l : List (Nat × Jp)) : LSpecs R := fun i => match l with
  | [] => none
  | (k, j) :: t => bif Nat.beq i k then some (jumpS j.S j.idx j.N j.vs0 j.Bs0 j.e1 j.ts1 j.Bs1) else jpS t i
def jpQ (M : Md R) (W : Nat) (l : List (Nat × Jp)) (V : Nat) : LQs R := fun i => match l with
  | [] => none
  | (k, j) :: t => bif Nat.beq i k then some (jumpQ M V W j.S j.idx j.N j.vs0 j.Bs0 j.e1 j.ts1 j.Bs1) else jpQ M W t V i
theorem jp_ref {Rq : Type} {M : Md Rq} {δ : Dn M R} {V W : Nat} {r : R} : ∀ l : List (Nat × Jp), RefL δ V W r (jpQ M W l V) (jpS l) := by
  intro l
  induction l with
  | nil => exact refL_none
  | cons p t ih =>
    obtain ⟨k, j⟩ := p
    intro i
    simp only [jpQ, jpS]
    cases Nat.beq i k with
    | true => exact ⟨fun sq h => by cases h; exact ⟨_, rfl, jumpQ_ref⟩, fun h => by cases h⟩
    | false => exact ih i
theorem jp_ok {k : Nat} {cs : List Code} {l : List (Nat × Jp)} (h : ∀ x ∈ cs, ∀ p ∈ l, p.1 = firstRegion x → CodeLoc P k (.loop x) (mkTs p.2.N (p.2.idx.zip p.2.vs0)) p.2.Bs0 p.2.e1 p.2.ts1 p.2.Bs1 ∧ fixB k p.2.S = true) : LoopsOk P (Fix k) (jpS l : LSpecs R) cs := by
  intro x hx s hs
  have key : ∀ (l : List (Nat × Jp)), (jpS l : LSpecs R) (firstRegion x) = some s → ∃ p ∈ l, p.1 = firstRegion x ∧ s = jumpS p.2.S p.2.idx p.2.N p.2.vs0 p.2.Bs0 p.2.e1 p.2.ts1 p.2.Bs1 := by
    intro l
    induction l with
    | nil => intro h; cases h
    | cons q t ih =>
      obtain ⟨c, j⟩ := q
      intro h
      simp only [jpS] at h
      cases hb : Nat.beq (firstRegion x) c with
      | true =>
        rw [hb, cond_true] at h
        cases h
        exact ⟨(c, j), List.mem_cons_self .., (Nat.eq_of_beq_eq_true hb).symm, rfl⟩
      | false =>
        rw [hb, cond_false] at h
        obtain ⟨p, p1, p2, p3⟩ := ih h
        exact ⟨p, List.mem_cons_of_mem _ p1, p2, p3⟩
  obtain ⟨p, p1, p2, rfl⟩ := key l hs
  obtain ⟨h1, h2⟩ := h x hx p p1 p2
  exact jump_sound h1 h2
/-- The cover check of a loop, as a truth. -/
def covT (S : List Nm) (vs0 : List AV) (Bs0 : Blks) (vs : List AV) (Bs : Blks) : Bool := @decide (Cov S vs0 Bs0 vs Bs) (Classical.propDecidable _)
theorem covT_true {S : List Nm} {vs0 : List AV} {Bs0 : Blks} {vs : List AV} {Bs : Blks} (h : Cov S vs0 Bs0 vs Bs) : covT S vs0 Bs0 vs Bs = true := @decide_eq_true _ (Classical.propDecidable _) h
end
end Go.Proofs.YtipigcgegmedeaaGreat.Ev
