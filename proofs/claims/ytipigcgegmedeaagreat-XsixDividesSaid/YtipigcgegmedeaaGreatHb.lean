/- Local contracts of functions, and what they say of a call in any store. -/
import Derived.Test.YtipigcgegmedeaaGreatHa
namespace Go.Proofs.YtipigcgegmedeaaGreat.Ev
open Go Go.RowKit
set_option linter.unusedVariables false
set_option linter.unusedSimpArgs false
noncomputable section
variable {R : Type} {P : Program} {r : R} {m : Nam} {w : World}

/-- What a call does to a few blocks. -/
def LocOk (P : Program) (k : Nat) (f : FuncId) (args0 : List AV) (Bs0 : Blks) (v : AV) (Bs1 : Blks) : Prop :=
  ∀ m w (xs : Array Value), HR m (fun f => Bs0.length ≤ f) (atN Bs0) w → CR m args0 xs.toList → Calls P f xs w fun e w' =>
    ∃ x m', e = .returned x ∧ TrF (Fix k) m (atN Bs0) w m' (atN Bs1) w' ∧ HR m' (fun f => Bs1.length ≤ f) (atN Bs1) w' ∧ VR m' v x
def probeV (S : List Nm) : Kont (AV × Blks) := fun v h b => some (v, S.map (get h))
theorem loc_end {S : List Nm} {k : Nat} {v0 v1 : AV} {Bs0 Bs1 Bs : Blks} (hc : Cov S [v0] Bs1 [v1] Bs) (hf : fixB k S = true) {h' : Heap} (hB : S.map (get h') = Bs) {m' : Nam} {w' : World} {b' : Nat} {x : Value} (t : TrF (Fix k) m (atN Bs0) w m' (get h') w') (H : HR m' (fun f => b' ≤ f) (get h') w') (hv : VR m' v1 x) :
    ∃ m2, TrF (Fix k) m (atN Bs0) w m2 (atN Bs1) w' ∧ HR m2 (fun f => Bs1.length ≤ f) (atN Bs1) w' ∧ VR m2 v0 x := by
  subst hB
  refine ⟨_, t.trans (hc.tr hf w'), hc.hr H, ?_⟩
  obtain ⟨v, v2, v3⟩ := hc.vals 0 v0 rfl
  simp only [List.getElem?_cons_zero, Option.some.injEq] at v2
  subst v2
  exact v3.vr hv
/-- By a run of what is sound. -/
theorem spec_loc {f : FuncId} {s : Spec (AV × Blks)} (hs : SoundSpec P f s) {S : List Nm} {k : Nat} {args0 : List AV} {v0 v1 : AV} {Bs0 Bs1 Bs : Blks} (hr : s (heapOf 0 Bs0) Bs0.length args0 (probeV S) = some (v1, Bs)) (hc : Cov S [v0] Bs1 [v1] Bs) (hf : fixB k S = true) : LocOk P k f args0 Bs0 v0 Bs1 := by
  intro m w xs H hx
  rw [← get_heapOf] at H
  refine Calls.mono (hs.2.2 m (fun f => Bs0.length ≤ f) (heapOf 0 Bs0) Bs0.length w args0 xs _ _ (fun _ h => h) H hx hr) fun e w' he => ?_
  obtain ⟨v, x, h', b', m', rfl, q1, q0, q2, q3, q4⟩ := he
  simp only [probeV, Option.some.injEq, Prod.mk.injEq] at q1
  obtain ⟨rfl, q1⟩ := q1
  rw [get_heapOf] at q2
  obtain ⟨m2, z1, z2, z3⟩ := loc_end hc hf q1 q2.toF ((above_id q0).1 q3) q4
  exact ⟨x, m2, rfl, z1, z2, z3⟩
/-- A function by its own tree, with contracts of its loops. -/
def evFnX (P : Program) (D : Specs R) (n : Nat) (LD : LSpecs R) (fn : Func) (h : Heap) (base : Nat) (args : List AV) (K : Kont R) : Option R :=
  match fn.body with
  | some c => evX P D n LD c (args ++ fills (fn.ntmps - args.length)) h base fun e ts h' b' => match e with
    | .exit _ => none
    | _ => match resE fn.results.toList ts with
      | some vs => K (one vs) h' b'
      | none => none
  | none => none
def bodyOf (fn : Func) : Code := match fn.body with
  | some c => c
  | none => .skip
theorem fnX_loc {f : FuncId} {fn : Func} (hf : P.funcs[f]? = some fn) {D : Specs (AV × Blks)} (hD : Sound P D) {n k : Nat} {LD : LSpecs (AV × Blks)} (hL : LoopsOk P (Fix k) LD (loopsIn (bodyOf fn))) {S : List Nm} {args0 : List AV} {v0 v1 : AV} {Bs0 Bs1 Bs : Blks}
    (hr : evFnX P D n LD fn (heapOf 0 Bs0) Bs0.length args0 (probeV S) = some (v1, Bs)) (hc : Cov S [v0] Bs1 [v1] Bs) (hfx : fixB k S = true) : LocOk P k f args0 Bs0 v0 Bs1 := by
  intro m w xs H hx
  unfold evFnX at hr
  unfold bodyOf at hL
  split at hr
  · rename_i c hbody
    rw [hbody] at hL
    simp only at hL
    refine calls_of_wp hf hbody ?_
    rw [← get_heapOf] at H
    refine evX_wp hD n LD c hL Bs0.length _ (heapOf 0 Bs0) Bs0.length _ m w _ _ (Nat.le_refl _) H (args_tr hx fn.ntmps []) rfl hr ?_
    intro e ts' h' b' a' m' w' q1 q0 q2 q3 q4 q5
    rw [get_heapOf] at q2
    have main : (match resE fn.results.toList ts' with | some vs => probeV S (one vs) h' b' | none => none) = some (v1, Bs) → a'.defers = [] ∧ ∃ v, (results fn a'.tmps).run P w' = .ok v w' ∧ ∃ x m', Ending.returned v = .returned x ∧ TrF (Fix k) m (atN Bs0) w m' (atN Bs1) w' ∧ HR m' (fun f => Bs1.length ≤ f) (atN Bs1) w' ∧ VR m' v0 x := by
      intro q1
      split at q1
      · rename_i vs hvs
        obtain ⟨ys, y1, y2⟩ := res_real (P := P) q4 w' fn.results.toList vs hvs
        have hmap : (fn.results.mapM (m := Sem) fun | .tmp t => pure (a'.tmps.getD t undef) | .cell q t => do loadVar t (← asAddr (a'.tmps.getD q undef))).run P w' = .ok ys.toArray w' := by
          have y1' : (fn.results.toList.mapM (m := Sem) fun | .tmp t => pure (a'.tmps.getD t undef) | .cell q t => do loadVar t (← asAddr (a'.tmps.getD q undef))).run P w' = .ok ys w' := y1
          rw [Array.mapM_eq_mapM_toList, Sem.run_map, y1']
          rfl
        simp only [probeV, Option.some.injEq, Prod.mk.injEq] at q1
        obtain ⟨q6, q7⟩ := q1
        obtain ⟨m2, z1, z2, z3⟩ := loc_end hc hfx q7 q2 q3 (q6 ▸ res_one y2)
        refine ⟨q5, (if hh : ys.toArray.size = 1 then ys.toArray[0] else .tuple ys.toArray), ?_, _, m2, rfl, z1, z2, z3⟩
        simp only [results, Sem.run_bind]
        exact (congrArg (fun z => Result.andThen z _) hmap).trans rfl
      · cases q1
    cases e with
    | exit i => cases q1
    | normal => exact main q1
    | ret => exact main q1
  · cases hr

/-! ### By other names -/
def rnA (ρ : Nat → Nm) (len : Nat) : Nat → AV → AV
  | _, .ptr (some a) => bif Nat.beq a.nm.idx 0 && Nat.blt a.nm.fam len then .ptr (some ⟨ρ a.nm.fam, a.row, a.col⟩) else .undef
  | _, .slice a es n c => bif Nat.beq a.nm.idx 0 && Nat.blt a.nm.fam len then .slice ⟨ρ a.nm.fam, a.row, a.col⟩ es n c else .undef
  | d + 1, .agg cs => .agg (cs.map (rnA ρ len d))
  | d + 1, .tuple cs => .tuple (cs.map (rnA ρ len d))
  | d + 1, .iface t v => .iface t (rnA ρ len d v)
  | 0, .agg _ => .undef
  | 0, .tuple _ => .undef
  | 0, .iface _ _ => .undef
  | _, v => v
def Col.rn (ρ : Nat → Nm) (len : Nat) : Col → Col
  | .ints k f => .ints k f
  | .bools f => .bools f
  | .vals f => .vals fun i => rnA ρ len 1 (f i)
  | .one v => .one (rnA ρ len 1 v)
def Blk.rn (ρ : Nat → Nm) (len : Nat) (s : Nat) (B : Blk) : Blk := ⟨B.rows, B.cols.map (Col.rn ρ len), s⟩
theorem CA.rn {τ : Sg} {ρ : Nat → Nm} {len : Nat} (hs : ∀ i, i < len → τ (ρ i) = some ⟨i, 0⟩) : ∀ (d : Nat) (v : AV), CA τ (rnA ρ len d v) v := by
  have hp : ∀ (a : Adr) (X : AV) (v : AV), CA τ X v → (a.nm.idx = 0 → a.nm.fam < len → CA τ X v) → True := fun _ _ _ _ _ => trivial
  have hb : ∀ (a : Adr) (X v : AV), (τ (ρ a.nm.fam) = some a.nm → CA τ X v) → CA τ (bif Nat.beq a.nm.idx 0 && Nat.blt a.nm.fam len then X else .undef) v := fun a X v h => by
    cases hc : Nat.beq a.nm.idx 0 && Nat.blt a.nm.fam len with
    | false => exact .undef _
    | true =>
      rw [Bool.and_eq_true] at hc
      have h0 := Nat.eq_of_beq_eq_true hc.1
      have h1 : a.nm.fam < len := by simpa using hc.2
      exact h ((hs _ h1).trans (congrArg some (nm_ext rfl h0.symm)))
  intro d
  induction d with
  | zero =>
    intro v
    cases v with
    | ptr a =>
      cases a with
      | none => exact .nilp
      | some a => exact hb a _ _ fun h => .ptr _ a h rfl rfl
    | slice a es n c => exact hb a _ _ fun h => .slice _ a es n c h rfl rfl
    | agg cs => exact .undef _
    | tuple cs => exact .undef _
    | iface t v => exact .undef _
    | undef => exact .undef _
    | cell => exact .cell _ rfl
    | _ => constructor
  | succ d ih =>
    intro v
    cases v with
    | ptr a =>
      cases a with
      | none => exact .nilp
      | some a => exact hb a _ _ fun h => .ptr _ a h rfl rfl
    | slice a es n c => exact hb a _ _ fun h => .slice _ a es n c h rfl rfl
    | agg cs => exact .agg _ cs (by simp) fun i a b => by simpa using ih cs[i]
    | tuple cs => exact .tuple _ cs (by simp) fun i a b => by simpa using ih cs[i]
    | iface t v => exact .iface t _ v (ih v)
    | undef => exact .undef _
    | cell => exact .cell _ rfl
    | _ => constructor
theorem CB.rn {τ : Sg} {ρ : Nat → Nm} {len : Nat} (hs : ∀ i, i < len → τ (ρ i) = some ⟨i, 0⟩) (s : Nat) (B : Blk) : CB τ (B.rn ρ len s) B := by
  refine ⟨Nat.le_refl _, by simp [Blk.rn], fun i c' c r hc' hc hr => ?_⟩
  simp only [Blk.rn, List.getElem?_map, hc, Option.map_some, Option.some.injEq] at hc'
  subst hc'
  cases c with
  | ints k f => exact .int _ _
  | bools f => exact .bool _
  | vals f => exact CA.rn hs 1 _
  | one v => exact CA.rn hs 1 _
/-- A name's place in a list. -/
def findN : List Nm → Nat → Sg
  | [], _ => fun _ => none
  | x :: t, i => fun n => bif Nat.beq n.fam x.fam && Nat.beq n.idx x.idx then some ⟨i, 0⟩ else findN t (i + 1) n
theorem findN_some : ∀ {l : List Nm} {i : Nat} {n k : Nm}, findN l i n = some k → ∃ j, k = ⟨i + j, 0⟩ ∧ l[j]? = some n := by
  intro l
  induction l with
  | nil => intro i n k h; cases h
  | cons x t ih =>
    intro i n k h
    simp only [findN, nm_beq] at h
    split at h
    · rename_i e; cases h; exact ⟨0, rfl, by rw [e]; rfl⟩
    · obtain ⟨j, h1, h2⟩ := ih h
      exact ⟨j + 1, by rw [h1]; exact nm_ext (by simp only; omega) rfl, by simpa using h2⟩
theorem findN_at : ∀ {l : List Nm} {i : Nat}, (∀ (a b : Nat) (k : Nm), l[a]? = some k → l[b]? = some k → a = b) → ∀ {j : Nat} {n : Nm}, l[j]? = some n → findN l i n = some ⟨i + j, 0⟩ := by
  intro l
  induction l with
  | nil => intro i _ j n h; simp at h
  | cons x t ih =>
    intro i ha j n h
    simp only [findN, nm_beq]
    cases j with
    | zero =>
      simp only [List.getElem?_cons_zero, Option.some.injEq] at h
      rw [if_pos h.symm]; rfl
    | succ j =>
      have h' : t[j]? = some n := by simpa using h
      rw [if_neg fun e => ?_]
      · rw [ih (fun a b k p q => by have := ha (a + 1) (b + 1) k (by simpa using p) (by simpa using q); omega) h']
        exact congrArg some (nm_ext (by simp only; omega) rfl)
      · have := ha 0 (j + 1) n (by rw [e]; rfl) h
        omega
theorem findN_none {l : List Nm} {i : Nat} {n : Nm} (h : ∀ j : Nat, l[j]? ≠ some n) : findN l i n = none := by
  cases e : findN l i n with
  | none => rfl
  | some k => obtain ⟨j, _, h2⟩ := findN_some e; exact absurd h2 (h j)

/-! ### A call in any store, by a local contract -/
structure Frm where
  names : List Nm
  args : List AV
  Bs : Blks   -- those that are handed over
  v : AV
  olds : Blks
  news : List Blk
  keep : List Bool
def Frm.len (r : Frm) : Nat := r.names.length + r.news.length
def Frm.ends (r : Frm) : Blks := r.olds ++ r.news.map some
structure FrmOk (P : Program) (f : FuncId) (g : Gt) (args : List AV) (r : Frm) : Prop where
  loc : LocOk P r.names.length f r.args r.Bs r.v r.ends
  l1 : r.Bs.length = r.names.length
  l2 : r.olds.length = r.names.length
  l3 : r.keep.length = r.names.length
  apart : ∀ (i j : Nat) (k : Nm), r.names[i]? = some k → r.names[j]? = some k → i = j
  la : r.args.length = args.length
  argc : ∀ i (h : i < r.args.length) (h' : i < args.length), CA (byL r.names) r.args[i] args[i]
  blks : ∀ (i : Nat) (n : Nm), r.names[i]? = some n → ∃ B, g n = some B ∧ ∀ B0, r.Bs[i]? = some (some B0) → CB (byL r.names) B0 B
  lent : ∀ i : Nat, r.Bs[i]? = some none → r.keep[i]? = some true
  keeps : ∀ (i : Nat) (n : Nm) (B B0 : Blk), r.keep[i]? = some true → r.names[i]? = some n → r.Bs[i]? = some (some B0) → g n = some B → ∃ B1, r.olds[i]? = some (some B1) ∧ CB (findN r.names 0) B B1
def stOf (h : Heap) (n : Nm) : Nat := match get h n with
  | some B => B.st
  | none => 0
def frOne (ρ : Nat → Nm) (len : Nat) (h : Heap) (n : Nm) (x : Option Blk) : Heap := match x with
  | some B => set h n (B.rn ρ len (stOf h n + 1))
  | none => kill h n
def frSet (ρ : Nat → Nm) (len : Nat) : List Nm → Blks → List Bool → Heap → Heap
  | n :: t, x :: xs, kp :: ks, h => frSet ρ len t xs ks (bif kp then h else frOne ρ len h n x)
  | _, _, _, h => h
def Frm.rho (r : Frm) (base : Nat) : Nat → Nm := fun i => match r.names[i]? with
  | some n => n
  | none => ⟨base + (i - r.names.length), 0⟩
def frameS (gg : Gt → List AV → Option Frm) : Spec R := fun h base args K =>
  match gg (get h) args with
  | some r => newsK (r.news.map fun B => B.rn (r.rho base) r.len 0) (frSet (r.rho base) r.len r.names r.olds r.keep h) base (K (rnA (r.rho base) r.len 3 r.v))
  | none => none
theorem HR.glue2 {m1 m2 : Nam} {U1 U2 U : Nat → Prop} {g1 g2 : Gt} {w : World} (p : Nm → Bool) (H1 : HR m1 U1 g1 w) (H2 : HR m2 U2 g2 w) (h1 : ∀ n, p n = true → m1 n = none) (h2 : ∀ n, p n = false → m2 n = none)
    (hd : ∀ n n' L L', g1 n ≠ none → m1 n = some L → m2 n' = some L' → g2 n' ≠ none → L.b ≠ L'.b) (hU : ∀ f, U f → U1 f) (hU2 : ∀ n L, m2 n = some L → ¬ U n.fam) :
    HR (fun n => bif p n then m2 n else m1 n) U (fun n => bif p n then g2 n else g1 n) w ∧ m1.le (fun n => bif p n then m2 n else m1 n) ∧ m2.le (fun n => bif p n then m2 n else m1 n) := by
  have l1 : m1.le (fun n => bif p n then m2 n else m1 n) := fun n L h => by
    cases hp : p n with
    | true => rw [h1 n hp] at h; cases h
    | false => show (bif p n then m2 n else m1 n) = some L; rw [hp]; exact h
  have l2 : m2.le (fun n => bif p n then m2 n else m1 n) := fun n L h => by
    cases hp : p n with
    | true => show (bif p n then m2 n else m1 n) = some L; rw [hp]; exact h
    | false => rw [h2 n hp] at h; cases h
  refine ⟨⟨fun n B h => ?_, fun n n' B B' L L' a b c d e => ?_, fun n L h => ?_⟩, l1, l2⟩
  · cases hp : p n with
    | true => rw [hp, cond_true] at h; exact (H2.live n B h).mono l2 fun _ _ => rfl
    | false => rw [hp, cond_false] at h; exact (H1.live n B h).mono l1 fun _ _ => rfl
  · cases hp : p n with
    | true =>
      simp only [hp, cond_true] at a c
      cases hp' : p n' with
      | true => simp only [hp', cond_true] at b d; exact H2.inj n n' B B' L L' a b c d e
      | false => simp only [hp', cond_false] at b d; exact absurd e.symm (hd n' n L' L (by rw [b]; simp) d c (by rw [a]; simp))
    | false =>
      simp only [hp, cond_false] at a c
      cases hp' : p n' with
      | true => simp only [hp', cond_true] at b d; exact absurd e (hd n n' L L' (by rw [a]; simp) c d (by rw [b]; simp))
      | false => simp only [hp', cond_false] at b d; exact H1.inj n n' B B' L L' a b c d e
  · cases hp : p n with
    | true => simp only [hp, cond_true] at h; exact ⟨(H2.bound n L h).1, hU2 n L h⟩
    | false => simp only [hp, cond_false] at h; exact ⟨(H1.bound n L h).1, fun u => (H1.bound n L h).2 (hU _ u)⟩
theorem set_keeps {h : Heap} {n : Nm} {B : Blk} (hs : stOf h n < B.st) : Keeps h (set h n B) := by
  intro f F e
  show ∃ F', fam (set h n B) f = some F' ∧ _
  unfold set
  rw [fam_upd]
  split
  · rename_i hk
    rw [e]
    subst hk
    refine ⟨_, rfl, ?_⟩
    cases hB : F.get n.idx with
    | none =>
      intro k
      rw [Fam.get_set]
      by_cases hk : k = n.idx
      · subst hk; rw [if_pos rfl, hB]; exact ⟨fun _ => rfl, fun B B' e1 _ => (by cases e1)⟩
      · rw [if_neg hk]; exact FamLe.refl F k
    | some B0 =>
      refine set_le hB ?_
      unfold stOf get at hs
      rw [e] at hs
      simp only [hB] at hs
      exact hs
  · exact ⟨F, e, .refl F⟩
theorem frSet_keeps (ρ : Nat → Nm) (len : Nat) : ∀ (l : List Nm) (xs : Blks) (ks : List Bool) (h : Heap), Keeps h (frSet ρ len l xs ks h) := by
  intro l
  induction l with
  | nil => intro xs ks h; exact .refl h
  | cons n t ih =>
    intro xs ks h
    cases xs with
    | nil => exact .refl h
    | cons x xs =>
      cases ks with
      | nil => exact .refl h
      | cons kp ks =>
        simp only [frSet]
        refine Keeps.trans ?_ (ih _ _ _)
        cases kp with
        | true => exact .refl h
        | false =>
          simp only [cond_false]
          cases x with
          | none => exact kill_keeps h n
          | some B => exact set_keeps (Nat.lt_succ_self _)
/-- What is there behind it. -/
theorem frSet_get (ρ : Nat → Nm) (len : Nat) : ∀ (l : List Nm) (xs : Blks) (ks : List Bool) (h : Heap), xs.length = l.length → ks.length = l.length → (∀ (i j : Nat) (k : Nm), l[i]? = some k → l[j]? = some k → i = j) →
    (∀ n, (∀ j : Nat, l[j]? ≠ some n) → get (frSet ρ len l xs ks h) n = get h n) ∧
    ∀ (i : Nat) (n : Nm), l[i]? = some n → (ks[i]? = some true → get (frSet ρ len l xs ks h) n = get h n) ∧ (ks[i]? = some false → (xs[i]? = some none → get (frSet ρ len l xs ks h) n = none) ∧ ∀ B, xs[i]? = some (some B) → get h n ≠ none → ∃ s, get (frSet ρ len l xs ks h) n = some (B.rn ρ len s)) := by
  intro l
  induction l with
  | nil => intro xs ks h _ _ _; exact ⟨fun n _ => rfl, fun i n h => by simp at h⟩
  | cons q t ih =>
    intro xs ks h h1 h2 ha
    cases xs with
    | nil => simp at h1
    | cons x xs =>
      cases ks with
      | nil => simp at h2
      | cons kp ks =>
        simp only [frSet]
        have hat : ∀ (i j : Nat) (k : Nm), t[i]? = some k → t[j]? = some k → i = j := fun i j k a b => by have := ha (i + 1) (j + 1) k (by simpa using a) (by simpa using b); omega
        have hq : ∀ j : Nat, t[j]? ≠ some q := fun j e => by have := ha 0 (j + 1) q rfl (by simpa using e); omega
        generalize hh : (bif kp then h else frOne ρ len h q x) = h1'
        obtain ⟨i1, i2⟩ := ih xs ks h1' (by simpa using h1) (by simpa using h2) hat
        have other : ∀ n, n ≠ q → get h1' n = get h n := fun n hn => by
          subst hh
          cases kp with
          | true => rfl
          | false =>
            simp only [cond_false]
            cases x with
            | none => simp only [frOne]; rw [get_kill, if_neg hn]
            | some B => simp only [frOne]; rw [get_set, if_neg hn]
        refine ⟨fun n hn => ?_, fun i n hi => ?_⟩
        · rw [i1 n fun j e => hn (j + 1) (by simpa using e), other n fun e => hn 0 (by rw [e]; rfl)]
        · cases i with
          | zero =>
            simp only [List.getElem?_cons_zero, Option.some.injEq] at hi
            subst hi
            rw [i1 q hq]
            subst hh
            refine ⟨fun e => ?_, fun e => ⟨fun e2 => ?_, fun B e2 hl => ?_⟩⟩
            · simp only [List.getElem?_cons_zero, Option.some.injEq] at e; rw [e]; rfl
            · simp only [List.getElem?_cons_zero, Option.some.injEq] at e e2; rw [e, e2]; simp only [cond_false, frOne]; rw [get_kill, if_pos rfl]
            · simp only [List.getElem?_cons_zero, Option.some.injEq] at e e2
              rw [e, e2]
              simp only [cond_false, frOne]
              rw [get_set, if_pos rfl]
              cases hg : get h q with
              | none => exact absurd hg hl
              | some B0 => exact ⟨_, rfl⟩
          | succ i =>
            have hi' : t[i]? = some n := by simpa using hi
            have hne : n ≠ q := fun e => hq i (e ▸ hi')
            obtain ⟨j1, j2⟩ := i2 i n hi'
            rw [other n hne] at j1 j2
            simpa using ⟨j1, j2⟩
theorem CA.mono {σ τ : Sg} (h : ∀ n k, σ n = some k → τ n = some k) {v' v : AV} (c : CA σ v' v) : CA τ v' v := by
  induction c with
  | undef v => exact .undef v
  | cell v hl => exact .cell v hl
  | ptr a b h1 h2 h3 => exact .ptr a b (h _ _ h1) h2 h3
  | slice a b es n c h1 h2 h3 => exact .slice a b es n c (h _ _ h1) h2 h3
  | agg cs ds hl hc ih => exact .agg cs ds hl ih
  | tuple cs ds hl hc ih => exact .tuple cs ds hl ih
  | iface t v u hc ih => exact .iface t v u ih
  | _ => constructor
theorem CB.mono {σ τ : Sg} (h : ∀ n k, σ n = some k → τ n = some k) {B' B : Blk} (c : CB σ B' B) : CB τ B' B := ⟨c.1, c.2.1, fun i c' d r a b e => (c.2.2 i c' d r a b e).mono h⟩
theorem frame_sound {f : FuncId} {gg : Gt → List AV → Option Frm} (hfn : ∃ fn, P.funcs[f]? = some fn ∧ fn.body.isNone = false ∧ (fn.name == "runtime.NumGoroutine") = false) (hg : ∀ g args q, gg g args = some q → FrmOk P f g args q) : SoundSpec P f (frameS gg : Spec R) := by
  refine ⟨hfn, .of fun hp b' args => ?_, fun m U h base w args xs K r hU H hc hk => ?_⟩
  · unfold frameS
    split
    · exact (news_one (h := frSet _ _ _ _ _ hp)).mono fun a ha => (frSet_keeps _ _ _ _ _ hp).trans ha
    · exact .none
  unfold frameS at hk
  split at hk
  · rename_i q hq
    have ok := hg _ _ _ hq
    obtain ⟨h2, k1, k2⟩ := news_run hk
    rw [List.length_map] at k1 k2
    have l1 := ok.l1
    -- the names are there
    have there : ∀ (j : Nat) (n : Nm), q.names[j]? = some n → ∃ B, get h n = some B := fun j n hj => by
      obtain ⟨B, e, _⟩ := ok.blks j n hj; exact ⟨B, e⟩
    have named : ∀ (n : Nm) (B : Blk), get h n = some B → ∃ L, m n = some L := fun n B hB => by
      obtain ⟨L, _, _, _, e, _⟩ := H.live n B hB; exact ⟨L, e⟩
    have low : ∀ (n : Nm), get h n ≠ none → n.fam < base := fun n hn => by
      by_cases hb : base ≤ n.fam
      · exact absurd (H.fresh' (hU _ hb) n.idx) (by exact hn)
      · omega
    have mlow : ∀ (n : Nm) (L : Loc), m n = some L → n.fam < base := fun n L hn => by
      by_cases hb : base ≤ n.fam
      · have e := H.fresh (hU _ hb) n.idx
        have : m n = none := e
        rw [this] at hn; cases hn
      · omega
    have nlow : ∀ (j : Nat) (n : Nm), q.names[j]? = some n → n.fam < base := fun j n hj => by
      obtain ⟨_, e⟩ := there j n hj
      exact low n (by rw [e]; simp)
    have byLn : ∀ (j : Nat) (n : Nm), q.names[j]? = some n → byL q.names ⟨j, 0⟩ = some n := fun j n hj => by unfold byL; simp [hj]
    have hand : ∀ (k0 : Nm) (B : Blk) (L : Loc), atN q.Bs k0 = some B → nam (byL q.names) m k0 = some L → ∃ n0 B2, q.names[k0.fam]? = some n0 ∧ q.Bs[k0.fam]? = some (some B) ∧ get h n0 = some B2 ∧ m n0 = some L := fun k0 B L c1 c2 => by
      obtain ⟨h0, d1⟩ := atN_some c1
      have hlt : k0.fam < q.names.length := by have := (List.getElem?_eq_some_iff.1 d1).1; omega
      obtain ⟨B2, e2, _⟩ := ok.blks _ _ (List.getElem?_eq_getElem hlt)
      have : byL q.names k0 = some q.names[k0.fam] := by unfold byL; simp [h0, List.getElem?_eq_getElem hlt]
      simp only [nam, this, Option.bind_some] at c2
      exact ⟨_, B2, List.getElem?_eq_getElem hlt, d1, e2, c2⟩
    have Hl : HR (nam (byL q.names) m) (fun f => q.Bs.length ≤ f) (atN q.Bs) w := by
      refine H.cover (fun n n' k e e' => ?_) (fun n B' hn => ?_) (fun n k e => ?_)
      · obtain ⟨a1, a2⟩ := byL_some e
        obtain ⟨b1, b2⟩ := byL_some e'
        exact nm_ext (ok.apart _ _ _ a2 b2) (a1.trans b1.symm)
      · obtain ⟨h0, h1⟩ := atN_some hn
        have hlt : n.fam < q.names.length := by have := (List.getElem?_eq_some_iff.1 h1).1; omega
        obtain ⟨B, e2, e3⟩ := ok.blks _ _ (List.getElem?_eq_getElem hlt)
        exact ⟨q.names[n.fam], B, by unfold byL; simp [h0, List.getElem?_eq_getElem hlt], e2, e3 B' h1⟩
      · obtain ⟨a1, a2⟩ := byL_some e
        have := (List.getElem?_eq_some_iff.1 a2).1
        omega
    have hargs : CR (nam (byL q.names) m) q.args xs.toList := ⟨ok.la.trans hc.1, fun i a b => (ok.argc i a (ok.la ▸ a)).vr (hc.2 i (ok.la ▸ a) b)⟩
    refine Calls.mono (ok.loc (nam (byL q.names) m) w xs Hl hargs) fun e w' he => ?_
    obtain ⟨x, m1, rfl, t, H1, V⟩ := he
    let τ : Sg := fun n => match findN q.names 0 n with
      | some k => some k
      | none => bif Nat.ble base n.fam && Nat.blt n.fam (base + q.news.length) && Nat.beq n.idx 0 then some ⟨q.names.length + (n.fam - base), 0⟩ else none
    have τold : ∀ (j : Nat) (n : Nm), q.names[j]? = some n → τ n = some ⟨j, 0⟩ := fun j n hj => by
      have := findN_at (i := 0) ok.apart hj
      rw [Nat.zero_add] at this
      show (match findN q.names 0 n with | some k => some k | none => _) = _
      rw [this]
    have τnew : ∀ j, j < q.news.length → τ ⟨base + j, 0⟩ = some ⟨q.names.length + j, 0⟩ := fun j hj => by
      have : findN q.names 0 ⟨base + j, 0⟩ = none := findN_none fun k e => by have := nlow _ _ e; simp only at this; omega
      show (match findN q.names 0 ⟨base + j, 0⟩ with | some k => some k | none => _) = _
      rw [this]
      simp only
      have : (Nat.ble base (base + j) && Nat.blt (base + j) (base + q.news.length) && Nat.beq 0 0) = true := by simp [hj]
      rw [this, cond_true, Nat.add_sub_cancel_left]
    have τinv : ∀ (n k : Nm), τ n = some k → (∃ j, k = ⟨j, 0⟩ ∧ q.names[j]? = some n) ∨ ∃ j, j < q.news.length ∧ k = ⟨q.names.length + j, 0⟩ ∧ n = ⟨base + j, 0⟩ := fun n k hk => by
      have hk : (match findN q.names 0 n with | some k => some k | none => bif Nat.ble base n.fam && Nat.blt n.fam (base + q.news.length) && Nat.beq n.idx 0 then some (⟨q.names.length + (n.fam - base), 0⟩ : Nm) else none) = some k := hk
      cases hf : findN q.names 0 n with
      | some k' =>
        rw [hf] at hk
        simp only [Option.some.injEq] at hk
        subst hk
        obtain ⟨j, e1, e2⟩ := findN_some hf
        rw [Nat.zero_add] at e1
        exact .inl ⟨j, e1, e2⟩
      | none =>
        rw [hf] at hk
        simp only at hk
        cases hb : Nat.ble base n.fam && Nat.blt n.fam (base + q.news.length) && Nat.beq n.idx 0 with
        | false => rw [hb] at hk; cases hk
        | true =>
          rw [hb] at hk
          simp only [cond_true, Option.some.injEq] at hk
          simp only [Bool.and_eq_true, Nat.ble_eq, Nat.blt_eq] at hb
          exact .inr ⟨n.fam - base, by omega, hk.symm, nm_ext (by simp only; omega) (Nat.eq_of_beq_eq_true hb.2)⟩
    have ρτ : ∀ i, i < q.len → τ (q.rho base i) = some ⟨i, 0⟩ := fun i hi => by
      unfold Frm.rho
      cases hn : q.names[i]? with
      | some n => exact τold i n hn
      | none =>
        have hge := List.getElem?_eq_none_iff.1 hn
        unfold Frm.len at hi
        have := τnew (i - q.names.length) (by omega)
        have e : q.names.length + (i - q.names.length) = i := by omega
        rw [e] at this
        exact this
    have hat1 : ∀ (j : Nat) (B1 : Blk), q.olds[j]? = some (some B1) → atN q.ends ⟨j, 0⟩ = some B1 := fun j B1 hj => by
      have hlt := (List.getElem?_eq_some_iff.1 hj).1
      unfold atN Frm.ends
      simp only
      rw [List.getElem?_append_left hlt, hj]
      rfl
    have hat2 : ∀ (j : Nat) (B1 : Blk), q.news[j]? = some B1 → atN q.ends ⟨q.names.length + j, 0⟩ = some B1 := fun j B1 hj => by
      unfold atN Frm.ends
      simp only
      rw [← ok.l2, List.getElem?_append_right (by omega), Nat.add_sub_cancel_left, List.getElem?_map, hj]
      rfl
    obtain ⟨fs1, fs2⟩ := frSet_get (q.rho base) q.len q.names q.olds q.keep h ok.l2 ok.l3 ok.apart
    have away : ∀ n, τ n = none → get h2 n = get h n := fun n hn => by
      rw [k2 n]
      split
      · rename_i hr
        have : get h n = none := by
          cases e : get h n with
          | none => rfl
          | some B => have := low n (by rw [e]; simp); omega
        rw [this]
        split
        · rename_i h0
          have := τnew (n.fam - base) (by omega)
          have e : (⟨base + (n.fam - base), 0⟩ : Nm) = n := nm_ext (by simp only; omega) h0.symm
          rw [e, hn] at this; cases this
        · rfl
      · exact fs1 n fun j e => by rw [τold j n e] at hn; cases hn
    let mf : Nam := fun n => match τ n with
      | some k => m1 k
      | none => m n
    have mf1 : ∀ n k, τ n = some k → mf n = m1 k := fun n k hk => by show (match τ n with | some k => m1 k | none => m n) = _; rw [hk]
    have mf0 : ∀ n, τ n = none → mf n = m n := fun n hk => by show (match τ n with | some k => m1 k | none => m n) = _; rw [hk]
    have le1 : (nam τ m1).le mf := fun n L hn => by
      cases hk : τ n with
      | none => simp only [nam, hk, Option.bind_none] at hn; cases hn
      | some k => simp only [nam, hk, Option.bind_some] at hn; rw [mf1 n k hk]; exact hn
    have le0 : m.le mf := fun n L hn => by
      cases hk : τ n with
      | none => rw [mf0 n hk]; exact hn
      | some k =>
        rw [mf1 n k hk]
        rcases τinv n k hk with ⟨j, rfl, hj⟩ | ⟨j, hj, rfl, rfl⟩
        · refine t.ext ⟨j, 0⟩ L ⟨(List.getElem?_eq_some_iff.1 hj).1, rfl⟩ ?_
          simp only [nam, byLn j n hj, Option.bind_some, hn]
        · have := mlow _ _ hn; simp only at this; omega
    -- a name is either one whose block was handed over or is new, or its block stays
    let A : Nm → Prop := fun n => τ n = none ∨ ∃ j : Nat, q.names[j]? = some n ∧ q.Bs[j]? = some none
    have stay : ∀ n, A n → get h2 n = get h n := fun n hn => by
      rcases hn with hn | ⟨j, hj, hB⟩
      · exact away n hn
      · rw [k2 n, if_neg (by have := nlow j n hj; omega)]
        exact (fs2 j n hj).1 (ok.lent j hB)
    have staym : ∀ (n : Nm) (B : Blk) (L : Loc), A n → get h n = some B → mf n = some L → m n = some L := fun n B L hn hB hL => by
      obtain ⟨L0, e0⟩ := named n B hB
      have := le0 n L0 e0
      rw [this] at hL
      rw [e0, hL]
    have other : ∀ n, ¬ A n → ∃ k, τ n = some k ∧ ∀ B', get h2 n = some B' → ∃ B, atN q.ends k = some B ∧ CB τ B' B := fun n hn => by
      cases hk : τ n with
      | none => exact absurd (.inl hk) hn
      | some k =>
        refine ⟨k, rfl, fun B' hB => ?_⟩
        rcases τinv n k hk with ⟨j, rfl, hj⟩ | ⟨j, hj, rfl, rfl⟩
        · rw [k2 n, if_neg (by have := nlow j n hj; omega)] at hB
          obtain ⟨g1, g2⟩ := fs2 j n hj
          obtain ⟨B, hl⟩ := there j n hj
          have hjl := (List.getElem?_eq_some_iff.1 hj).1
          have hkl : j < q.keep.length := by have := ok.l3; omega
          have hol : j < q.olds.length := by have := ok.l2; omega
          have hbl : j < q.Bs.length := by omega
          cases hb : q.Bs[j] with
          | none => exact absurd (.inr ⟨j, hj, by rw [List.getElem?_eq_getElem hbl, hb]⟩) hn
          | some B0 =>
            have hb' : q.Bs[j]? = some (some B0) := by rw [List.getElem?_eq_getElem hbl, hb]
            cases hkp : q.keep[j] with
            | true =>
              have hkp' : q.keep[j]? = some true := by rw [List.getElem?_eq_getElem hkl, hkp]
              rw [g1 hkp'] at hB
              obtain ⟨B1, o1, o2⟩ := ok.keeps j n B' B0 hkp' hj hb' hB
              refine ⟨B1, hat1 j B1 o1, o2.mono fun a b hab => ?_⟩
              obtain ⟨i, e1, e2⟩ := findN_some hab
              rw [Nat.zero_add] at e1
              rw [e1]; exact τold i a e2
            | false =>
              have hkp' : q.keep[j]? = some false := by rw [List.getElem?_eq_getElem hkl, hkp]
              obtain ⟨g3, g4⟩ := g2 hkp'
              cases ho : q.olds[j] with
              | none => rw [g3 (by rw [List.getElem?_eq_getElem hol, ho])] at hB; cases hB
              | some B1 =>
                have ho' : q.olds[j]? = some (some B1) := by rw [List.getElem?_eq_getElem hol, ho]
                obtain ⟨s, g5⟩ := g4 B1 ho' (by rw [hl]; simp)
                rw [g5] at hB
                cases hB
                exact ⟨B1, hat1 j B1 ho', CB.rn ρτ s B1⟩
        · rw [k2 ⟨base + j, 0⟩, if_pos ⟨by simp, by simp only; omega⟩, if_pos rfl] at hB
          simp only [Nat.add_sub_cancel_left, List.getElem?_map] at hB
          cases hn : q.news[j]? with
          | none => rw [hn] at hB; cases hB
          | some B1 =>
            rw [hn] at hB
            simp only [Option.map_some, Option.some.injEq] at hB
            subst hB
            exact ⟨B1, hat2 j B1 hn, CB.rn ρτ 0 B1⟩
    have back : ∀ (n : Nm) (B' : Blk) (L : Loc), ¬ A n → get h2 n = some B' → mf n = some L → L.b < w.heap.size → ∃ n0 B0 L0, ¬ A n0 ∧ get h n0 = some B0 ∧ m n0 = some L0 ∧ L0.b = L.b := fun n B' L hn hB hL hlt => by
      obtain ⟨k, hk, hl⟩ := other n hn
      obtain ⟨B, b1, _⟩ := hl B' hB
      rw [mf1 n k hk] at hL
      obtain ⟨k0, B0, L0, c1, c2, c3⟩ := t.old k B L b1 hL hlt
      obtain ⟨n0, B2, e1, e0, e2, e3⟩ := hand k0 B0 L0 c1 c2
      refine ⟨n0, B2, L0, fun ha => ?_, e2, e3, c3⟩
      rcases ha with ha | ⟨j, hj, hz⟩
      · rw [τold _ n0 e1] at ha; cases ha
      · rw [ok.apart _ _ _ hj e1, e0] at hz; cases hz
    have hkeep : ∀ b, b < w.heap.size → (∀ n B L, ¬ A n → get h n = some B → m n = some L → L.b ≠ b) → w'.heap[b]? = w.heap[b]? := fun b hb hn => t.keep b hb fun k0 B L c1 c2 => by
      obtain ⟨n0, B2, e1, e0, e2, e3⟩ := hand k0 B L c1 c2
      refine hn n0 B2 L (fun ha => ?_) e2 e3
      rcases ha with ha | ⟨j, hj, hz⟩
      · rw [τold _ n0 e1] at ha; cases ha
      · rw [ok.apart _ _ _ hj e1, e0] at hz; cases hz
    have cross : ∀ (n n' : Nm) (B B' : Blk) (L L' : Loc), ¬ A n → A n' → get h2 n = some B → get h n' = some B' → mf n = some L → m n' = some L' → L.b ≠ L'.b := fun n n' B B' L L' e1 e2 e3 e4 e5 e6 eb => by
      have hlt : L.b < w.heap.size := eb ▸ (H.bound n' L' e6).1
      obtain ⟨n0, B0, L0, c1, c2, c3, c4⟩ := back n B L e1 e3 e5 hlt
      have := H.inj n0 n' B0 B' L0 L' c2 e4 c3 e6 (c4.trans eb)
      subst this
      exact c1 e2
    have Hf : HR mf (above U base (base + q.news.length)) (get h2) w' := by
      refine ⟨fun n B hn => ?_, fun n n' B B' L L' a b c d eb => ?_, fun n L hn => ?_⟩
      · by_cases ha : A n
        · rw [stay n ha] at hn
          refine (H.live n B hn).mono le0 fun L hL => hkeep L.b (H.bound n L hL).1 fun n0 B0 L0 c0 c1 c2 eb => ?_
          have := H.inj n0 n B0 B L0 L c1 hn c2 hL eb
          subst this
          exact c0 ha
        · obtain ⟨k, hk, hl⟩ := other n ha
          obtain ⟨B1, b1, b2⟩ := hl B hn
          exact ((H1.live k B1 b1).cover hk b2).mono le1 fun _ _ => rfl
      · by_cases ha : A n
        · rw [stay n ha] at a
          have c := staym n B L ha a c
          by_cases ha' : A n'
          · rw [stay n' ha'] at b
            have d := staym n' B' L' ha' b d
            exact H.inj n n' B B' L L' a b c d eb
          · exact absurd eb.symm (cross n' n B' B L' L ha' ha b a d c)
        · by_cases ha' : A n'
          · rw [stay n' ha'] at b
            have d := staym n' B' L' ha' b d
            exact absurd eb (cross n n' B B' L L' ha ha' a b c d)
          · obtain ⟨k, hk, hl⟩ := other n ha
            obtain ⟨k', hk', hl'⟩ := other n' ha'
            obtain ⟨B1, b1, _⟩ := hl B a
            obtain ⟨B2, b2, _⟩ := hl' B' b
            rw [mf1 n k hk] at c
            rw [mf1 n' k' hk'] at d
            have := H1.inj k k' B1 B2 L L' b1 b2 c d eb
            subst this
            rcases τinv n k hk with ⟨j, rfl, hj⟩ | ⟨j, hj, rfl, rfl⟩
            · rcases τinv n' _ hk' with ⟨i, e1, hi⟩ | ⟨i, hi, e1, rfl⟩
              · have : j = i := congrArg Nm.fam e1
                subst this
                rw [hj] at hi; exact Option.some.inj hi
              · have : j = q.names.length + i := congrArg Nm.fam e1
                have := (List.getElem?_eq_some_iff.1 hj).1
                omega
            · rcases τinv n' _ hk' with ⟨i, e1, hi⟩ | ⟨i, hi, e1, rfl⟩
              · have : q.names.length + j = i := congrArg Nm.fam e1
                have := (List.getElem?_eq_some_iff.1 hi).1
                omega
              · have : q.names.length + j = q.names.length + i := congrArg Nm.fam e1
                exact nm_ext (by simp only; omega) rfl
      · cases hk : τ n with
        | none =>
          rw [mf0 n hk] at hn
          exact ⟨Nat.lt_of_lt_of_le (H.bound n L hn).1 t.size, fun u => (H.bound n L hn).2 u.1⟩
        | some k =>
          rw [mf1 n k hk] at hn
          refine ⟨(H1.bound k L hn).1, fun u => ?_⟩
          rcases τinv n k hk with ⟨j, rfl, hj⟩ | ⟨j, hj, rfl, rfl⟩
          · obtain ⟨B, e⟩ := there j n hj
            obtain ⟨L0, e0⟩ := named n B e
            exact (H.bound n L0 e0).2 u.1
          · rcases u.2 with u | u <;> simp only at u <;> omega
    refine ⟨_, x, h2, _, mf, rfl, k1, by omega, ⟨le0, t.size, fun b hb hn => hkeep b hb fun n B L _ => hn n B L, fun n B L g1 g2 g3 => ?_, t.os, t.tape, t.out⟩, Hf, ((CA.rn ρτ 3 q.v).vr V).mono le1⟩
    by_cases ha : A n
    · rw [stay n ha] at g1
      exact ⟨n, B, L, g1, staym n B L ha g1 g2, rfl⟩
    · obtain ⟨n0, B0, L0, c1, c2, c3, c4⟩ := back n B L ha g1 g2 g3
      exact ⟨n0, B0, L0, c2, c3, c4⟩
  · cases hk
end
end Go.Proofs.YtipigcgegmedeaaGreat.Ev
