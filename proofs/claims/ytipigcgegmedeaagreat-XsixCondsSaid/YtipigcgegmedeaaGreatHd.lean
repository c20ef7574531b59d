/- Local contracts: closed ones by a test; conditions one by one; a law's call. -/
import Derived.Test.YtipigcgegmedeaaGreatHc
namespace Go.Proofs.YtipigcgegmedeaaGreat.Ev
open Go Go.RowKit
set_option linter.unusedVariables false
set_option linter.unusedSimpArgs false
noncomputable section
variable {R : Type} {P : Program}

/-- All of them hold. -/
def AllT : List Bool → Prop
  | [] => True
  | c :: t => c = true ∧ AllT t
theorem AllT.mem : ∀ {l : List Bool}, AllT l → ∀ t ∈ l, t = true := by
  intro l
  induction l with
  | nil => intro _ t h; simp at h
  | cons c l ih =>
    intro h t ht
    rcases List.mem_cons.1 ht with e | e
    · rw [e]; exact h.1
    · exact ih h.2 t e
def lenB (Bs : Blks) (S : List Nm) : Bool := Nat.beq S.length Bs.length
def optB (S : List Nm) : Option Blk → Option Blk → Bool
  | some B0, some B => covB S B0 B
  | none, _ => true
  | some _, none => false
def blksB (S : List Nm) : Blks → Blks → Bool
  | [], _ => true
  | x :: l, y :: m => bif optB S x y then blksB S l m else false
  | _ :: _, [] => false
theorem blksB_eq {S : List Nm} : ∀ (l m : Blks), blksB S l m = true → ∀ (i : Nat) (B0 : Blk), l[i]? = some (some B0) → ∃ B, m[i]? = some (some B) ∧ CB (byL S) B0 B := by
  intro l
  induction l with
  | nil => intro m _ i B0 h; simp at h
  | cons x l ih =>
    intro m h i B0 hi
    cases m with
    | nil => cases h
    | cons y m =>
      simp only [blksB] at h
      cases hb : optB S x y with
      | false => rw [hb] at h; cases h
      | true =>
        rw [hb, cond_true] at h
        cases i with
        | zero =>
          simp only [List.getElem?_cons_zero, Option.some.injEq] at hi
          subst hi
          cases y with
          | none => cases hb
          | some B => exact ⟨B, rfl, covB_cb hb⟩
        | succ i => simpa using ih m h i B0 (by simpa using hi)
/-- A closed run over a few blocks comes to this. -/
def locB (P : Program) (N W : Nat) (ok : List FuncId) (T : Tb) (n : Nat) (f : FuncId) (args0 : List AV) (Bs0 : Blks) (k : Nat) (S : List Nm) (v0 : AV) (Bs1 : Blks) : Bool :=
  match flw3 (locQ P N W ok T n f args0 Bs0 S) [] [] with
  | some ((v, Bs), []) => fixB k S && apartB S && Nat.beq S.length Bs1.length && covA S 3 v0 v && blksB S Bs1 Bs
  | _ => false
theorem cov_of {S : List Nm} {v0 v : AV} {Bs1 Bs : Blks} (h1 : apartB S = true) (h2 : Nat.beq S.length Bs1.length = true) (h3 : CA (byL S) v0 v) (h4 : blksB S Bs1 Bs = true) : Cov S [v0] Bs1 [v] Bs :=
  ⟨Nat.eq_of_beq_eq_true h2, apartB_eq h1, fun i x hi => by
    cases i with
    | zero => simp only [List.getElem?_cons_zero, Option.some.injEq] at hi; subst hi; exact ⟨v, rfl, h3⟩
    | succ i => simp at hi, blksB_eq _ _ h4⟩
theorem locB_ok {N W n f k : Nat} {ok : List FuncId} {T : Tb} {args0 : List AV} {Bs0 Bs1 : Blks} {S : List Nm} {v0 : AV} (hok : okAll P ok = true) (hT : Sound P (BSs T : Specs (AV × Blks))) (hf : (BSs T f : Option (Spec (AV × Blks))) = none) (h : true = locB P N W ok T n f args0 Bs0 k S v0 Bs1) : LocOk P k f args0 Bs0 v0 Bs1 := by
  unfold locB at h
  split at h
  · rename_i v Bs hr
    have h := h.symm
    simp only [Bool.and_eq_true] at h
    obtain ⟨⟨⟨⟨h1, h2⟩, h3⟩, h4⟩, h5⟩ := h
    exact loc_of_run hok hT hf hr (fun t ht => by simp at ht) (cov_of h2 h3 (covA_ca 3 _ _ h4) h5) h1
  · cases h
/-- A law's call. -/
theorem law_of_loc {f : FuncId} {args : List AV} {xs : Array Value} {b : Bool} (h : LocOk P 0 f args [] (.bool b) []) (hc : CR (fun _ => none) args xs.toList) (w : World) :
    Calls P f xs w fun e w' => e = .returned (.bool b) ∧ Below w.heap.size w w' := by
  have H : HR (fun _ => none) (fun f => ([] : Blks).length ≤ f) (atN []) w := ⟨fun n B h => by obtain ⟨_, h⟩ := atN_some h; simp at h, fun n n' B B' L L' h => by obtain ⟨_, h⟩ := atN_some h; simp at h, fun n L h => by cases h⟩
  refine Calls.mono (h _ w xs H hc) fun e w' he => ?_
  obtain ⟨x, m', rfl, t, H', V⟩ := he
  have hx := bool_real V
  subst hx
  exact ⟨rfl, t.os, t.tape, t.out, t.size, fun k hk => t.keep k hk fun n B L g => by obtain ⟨_, g⟩ := atN_some g; simp at g⟩
/-- What is known of functions that lay blocks, given arguments without addresses: by a list. -/
structure Row where
  arg : AV
  v : AV
  news : List Blk
def rowsG : List Row → (AV → W3 Frm) → Gt → List AV → W3 Frm
  | [], k => fun _ args => match args with
    | [x] => k x
    | _ => .nil
  | r :: t, k => fun g args => match args with
    | [x] => bif eqA 3 x r.arg then .val ⟨[], [x], [], r.v, [], r.news, []⟩ else rowsG t k g args
    | _ => .nil
theorem frm_fresh {f : FuncId} {g : Gt} {x : AV} {v : AV} {news : List Blk} {d : Nat} (hx : flat d x = true) (h : LocOk P 0 f [x] [] v (news.map some)) : FrmOk P f g [x] ⟨[], [x], [], v, [], news, []⟩ := by
  refine ⟨by simpa [Frm.ends] using h, rfl, rfl, rfl, fun i j k h => by simp at h, rfl, fun i a b => ?_, fun i n h => by simp at h, fun i h => by simp at h, fun i n B B0 h => by simp at h⟩
  have : i = 0 := by simpa using a
  subst this
  exact flat_ca d x hx
where
  flat_ca (d : Nat) (x : AV) (hx : flat d x = true) : CA (byL []) x x := by
    induction d generalizing x with
    | zero =>
      cases x with
      | ptr a => cases a with
        | none => exact .nilp
        | some a => simp [flat] at hx
      | slice a es n c => simp [flat] at hx
      | agg cs => simp [flat] at hx
      | tuple cs => simp [flat] at hx
      | iface t v => simp [flat] at hx
      | undef => exact .undef _
      | cell => exact .cell _ rfl
      | _ => constructor
    | succ d ih =>
      cases x with
      | ptr a => cases a with
        | none => exact .nilp
        | some a => simp [flat] at hx
      | slice a es n c => simp [flat] at hx
      | agg cs => simp only [flat, List.all_eq_true] at hx; exact .agg cs cs rfl fun i a b => ih _ (hx _ (List.getElem_mem _))
      | tuple cs => simp only [flat, List.all_eq_true] at hx; exact .tuple cs cs rfl fun i a b => ih _ (hx _ (List.getElem_mem _))
      | iface t v => simp only [flat] at hx; exact .iface t v v (ih _ hx)
      | undef => exact .undef _
      | cell => exact .cell _ rfl
      | _ => constructor
theorem rowsG_ok {f : FuncId} {k : AV → W3 Frm} : ∀ {l : List Row}, (∀ r ∈ l, LocOk P 0 f [r.arg] [] r.v (r.news.map some)) → (∀ g x q, (k x).den = some q → FrmOk P f g [x] q) → ∀ g args q, (rowsG l k g args).den = some q → FrmOk P f g args q := by
  intro l
  induction l with
  | nil =>
    intro _ hk g args q h
    unfold rowsG at h
    split at h
    · exact hk g _ q h
    · cases h
  | cons r t ih =>
    intro hl hk g args q h
    unfold rowsG at h
    split at h
    · rename_i x
      cases hb : eqA 3 x r.arg with
      | true =>
        rw [hb, cond_true] at h
        have h : some _ = some q := h
        cases h
        obtain ⟨rfl, e⟩ := eqA_eq 3 x r.arg hb
        exact frm_fresh e (hl r (List.mem_cons_self ..))
      | false =>
        rw [hb, cond_false] at h
        exact ih (fun r hr => hl r (List.mem_cons_of_mem _ hr)) hk g _ q h
    · cases h

/-! ### Columns of a run's blocks -/
def runB {α : Type} (r : Option ((α × Blks) × List Bool)) (i : Nat) : Blk := match r with
  | some ((_, Bs), _) => (match Bs[i]? with
    | some (some B) => B
    | _ => ⟨0, [], 0⟩)
  | none => ⟨0, [], 0⟩
def colI (B : Blk) (c : Nat) : Nat → Int := match B.cols[c]? with
  | some (.ints _ f) => f
  | _ => fun _ => 0
theorem cb_ints {σ : Sg} {k : IntKind} {f g : Nat → Int} {n n' s s' : Nat} (hn : n ≤ n') (h : ∀ r, r < n → f r = g r) : CB σ ⟨n, [.ints k f], s⟩ ⟨n', [.ints k g], s'⟩ :=
  ⟨hn, rfl, fun i c' c r a b hr => by
    cases i with
    | zero =>
      simp only [List.getElem?_cons_zero, Option.some.injEq] at a b
      subst a; subst b
      show CA σ (.int k (f r)) (.int k (g r))
      rw [h r hr]; exact .int _ _
    | succ i => simp at a⟩
theorem cb_same {σ : Sg} {k : IntKind} {f : Nat → Int} {n s s' : Nat} : CB σ ⟨n, [.ints k f], s⟩ ⟨n, [.ints k f], s'⟩ := cb_ints (Nat.le_refl _) fun _ _ => rfl
theorem map_range {f g : Nat → Int} {n : Nat} (h : (List.range n).map f = (List.range n).map g) (r : Nat) (hr : r < n) : f r = g r := by
  have : ((List.range n).map f)[r]? = ((List.range n).map g)[r]? := by rw [h]
  simpa [List.getElem?_map, List.getElem?_range hr] using this
end
end Go.Proofs.YtipigcgegmedeaaGreat.Ev
