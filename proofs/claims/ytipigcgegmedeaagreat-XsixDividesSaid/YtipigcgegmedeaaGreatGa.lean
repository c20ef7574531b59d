/- Blocks by other names; contracts of calls that lay blocks of their own. -/
import Derived.Test.YtipigcgegmedeaaGreatEy
namespace Go.Proofs.YtipigcgegmedeaaGreat.Ev
open Go Go.RowKit
set_option linter.unusedVariables false
set_option linter.unusedSimpArgs false
noncomputable section
variable {R : Type} {P : Program}

/-! ### What stands for what, by new names -/
abbrev Sg := Nm → Option Nm
/-- The first is the second by new names, or says less. -/
inductive CA (σ : Sg) : AV → AV → Prop where
  | undef (v) : CA σ .undef v
  | cell (v) : v.lone = true → CA σ .cell v
  | bool (b) : CA σ (.bool b) (.bool b)
  | int (k n) : CA σ (.int k n) (.int k n)
  | str (s) : CA σ (.str s) (.str s)
  | nilp : CA σ (.ptr none) (.ptr none)
  | ptr (a b : Adr) : σ a.nm = some b.nm → a.row = b.row → a.col = b.col → CA σ (.ptr (some a)) (.ptr (some b))
  | slice (a b : Adr) (es n c) : σ a.nm = some b.nm → a.row = b.row → a.col = b.col → CA σ (.slice a es n c) (.slice b es n c)
  | nils : CA σ .nils .nils
  | eslice : CA σ .eslice .eslice
  | agg (cs ds : List AV) : cs.length = ds.length → (∀ i (h : i < cs.length) (h' : i < ds.length), CA σ cs[i] ds[i]) → CA σ (.agg cs) (.agg ds)
  | tuple (cs ds : List AV) : cs.length = ds.length → (∀ i (h : i < cs.length) (h' : i < ds.length), CA σ cs[i] ds[i]) → CA σ (.tuple cs) (.tuple ds)
  | iface (t v u) : CA σ v u → CA σ (.iface t v) (.iface t u)
  | nilIface : CA σ .nilIface .nilIface
  | nilFunc : CA σ .nilFunc .nilFunc
  | func (f) : CA σ (.func f) (.func f)
abbrev nam (σ : Sg) (m : Nam) : Nam := fun n => (σ n).bind m
theorem CA.vr {σ : Sg} {m : Nam} {v' v : AV} (h : CA σ v' v) : ∀ {x : Value}, VR m v x → VR (nam σ m) v' x := by
  have hb : ∀ {a b : Adr} {L : Loc}, σ a.nm = some b.nm → m b.nm = some L → nam σ m a.nm = some L := fun {a b L} h1 h2 => by simp only [nam, h1, Option.bind_some, h2]
  induction h with
  | undef v => intro x _; exact .undef x
  | cell v hl => intro x hx; exact .cell x (lone_one hx hl)
  | ptr a b h1 h2 h3 =>
    intro x hx
    cases hx with
    | ptr _ L hL => rw [← h2, ← h3]; exact .ptr a L (hb h1 hL)
  | slice a b es n c h1 h2 h3 =>
    intro x hx
    cases hx with
    | slice _ L _ _ _ c' hL q1 q2 q3 => rw [← h2, ← h3] at *; exact .slice a L es n c c' (hb h1 hL) q1 q2 q3
  | agg cs ds hl hc ih =>
    intro x hx
    cases hx with
    | agg _ xs hl' hx => exact .agg cs xs (hl.trans hl') fun i a b => ih i a (hl ▸ a) (hx i (hl ▸ a) b)
  | tuple cs ds hl hc ih =>
    intro x hx
    cases hx with
    | tuple _ xs hl' hx => exact .tuple cs xs (hl.trans hl') fun i a b => ih i a (hl ▸ a) (hx i (hl ▸ a) b)
  | iface t v u hc ih =>
    intro x hx
    cases hx with
    | iface _ _ y hx => exact .iface t v y (ih hx)
  | _ => intro x hx; cases hx <;> constructor
/-- A block by new names: perhaps fewer rows. -/
def CB (σ : Sg) (B' B : Blk) : Prop := B'.rows ≤ B.rows ∧ B'.cols.length = B.cols.length ∧ ∀ (i : Nat) (c' c : Col) (r : Nat), B'.cols[i]? = some c' → B.cols[i]? = some c → r < B'.rows → CA σ (c'.at r) (c.at r)
theorem LR.cover {σ : Sg} {m : Nam} {w : World} {n' n : Nm} {B' B : Blk} (h : LR m w n B) (hn : σ n' = some n) (hb : CB σ B' B) : LR (nam σ m) w n' B' := by
  obtain ⟨L, cs, e, fz, g1, g2, g3, g7, g4, g5, g6⟩ := h
  obtain ⟨b1, b2, b3⟩ := hb
  refine ⟨L, cs, e, fz, by simp only [nam, hn, Option.bind_some, g1], g2.trans b2.symm, g3, g7, g4, Nat.le_trans (Nat.add_le_add_left (Nat.mul_le_mul_right _ b1) _) g5, fun r c col hr hc => ?_⟩
  have hlt : c < B.cols.length := by have := (List.getElem?_eq_some_iff.1 hc).1; omega
  obtain ⟨x, x1, x2, x3⟩ := g6 r c B.cols[c] (by omega) (List.getElem?_eq_getElem hlt)
  exact ⟨x, x1, (b3 c col _ r hc (List.getElem?_eq_getElem hlt) hr).vr x2, x3⟩
theorem HR.cover {σ : Sg} {m : Nam} {U U' : Nat → Prop} {g g' : Gt} {w : World} (H : HR m U g w) (hi : ∀ n n' k, σ n = some k → σ n' = some k → n = n') (hg : ∀ n B', g' n = some B' → ∃ k B, σ n = some k ∧ g k = some B ∧ CB σ B' B) (hU : ∀ n k, σ n = some k → ¬ U' n.fam) : HR (nam σ m) U' g' w := by
  refine ⟨fun n B' h => ?_, fun n n' B1 B2 L L' h1 h2 h3 h4 h5 => ?_, fun n L h => ?_⟩
  · obtain ⟨k, B, h1, h2, h3⟩ := hg n B' h
    exact (H.live k B h2).cover h1 h3
  · obtain ⟨k, C, a1, a2, _⟩ := hg n B1 h1
    obtain ⟨k', C', b1, b2, _⟩ := hg n' B2 h2
    simp only [nam, a1, b1, Option.bind_some] at h3 h4
    have := H.inj k k' C C' L L' a2 b2 h3 h4 h5
    subst this
    exact hi n n' k a1 b1
  · cases hk : σ n with
    | none => simp only [nam, hk, Option.bind_none] at h; cases h
    | some k =>
      simp only [nam, hk, Option.bind_some] at h
      exact ⟨(H.bound k L h).1, hU n k hk⟩
/-- Two stores over one world. -/
theorem HR.glue {m1 m2 : Nam} {U1 U2 U : Nat → Prop} {g1 g2 : Gt} {w : World} (p : Nm → Bool) (H1 : HR m1 U1 g1 w) (H2 : HR m2 U2 g2 w) (h1 : ∀ n, p n = true → m1 n = none) (h2 : ∀ n, p n = false → m2 n = none)
    (hd : ∀ n n' L L', m1 n = some L → m2 n' = some L' → g2 n' ≠ none → L.b ≠ L'.b) (hU : ∀ f, U f → U1 f) (hU2 : ∀ n L, m2 n = some L → ¬ U n.fam) :
    HR (fun n => bif p n then m2 n else m1 n) U (fun n => bif p n then g2 n else g1 n) w ∧ m1.le (fun n => bif p n then m2 n else m1 n) ∧ m2.le (fun n => bif p n then m2 n else m1 n) := by
  have l1 : m1.le (fun n => bif p n then m2 n else m1 n) := fun n L h => by
    cases hp : p n with
    | true => rw [h1 n hp] at h; cases h
    | false => show (bif p n then m2 n else m1 n) = some L; rw [hp]; exact h
  have l2 : m2.le (fun n => bif p n then m2 n else m1 n) := fun n L h => by
    cases hp : p n with
    | true => show (bif p n then m2 n else m1 n) = some L; rw [hp]; exact h
    | false => rw [h2 n hp] at h; cases h
  refine ⟨⟨fun n B h => ?_, fun n n' B B' L L' a b c d e => ?_, fun n L h => ?_⟩, l1, l2⟩
  · cases hp : p n with
    | true => rw [hp, cond_true] at h; exact (H2.live n B h).mono l2 fun _ _ => rfl
    | false => rw [hp, cond_false] at h; exact (H1.live n B h).mono l1 fun _ _ => rfl
  · cases hp : p n with
    | true =>
      simp only [hp, cond_true] at a c
      cases hp' : p n' with
      | true => simp only [hp', cond_true] at b d; exact H2.inj n n' B B' L L' a b c d e
      | false => simp only [hp', cond_false] at b d; exact absurd e.symm (hd n' n L' L d c (by rw [a]; simp))
    | false =>
      simp only [hp, cond_false] at a c
      cases hp' : p n' with
      | true => simp only [hp', cond_true] at b d; exact absurd e (hd n n' L L' c d (by rw [b]; simp))
      | false => simp only [hp', cond_false] at b d; exact H1.inj n n' B B' L L' a b c d e
  · cases hp : p n with
    | true => simp only [hp, cond_true] at h; exact ⟨(H2.bound n L h).1, hU2 n L h⟩
    | false => simp only [hp, cond_false] at h; exact ⟨(H1.bound n L h).1, fun u => (H1.bound n L h).2 (hU _ u)⟩

/-! ### Names farther on -/
def shA (s : Nat) : Nat → AV → AV
  | _, .ptr (some a) => .ptr (some ⟨⟨a.nm.fam + s, a.nm.idx⟩, a.row, a.col⟩)
  | _, .slice a es n c => .slice ⟨⟨a.nm.fam + s, a.nm.idx⟩, a.row, a.col⟩ es n c
  | d + 1, .agg cs => .agg (cs.map (shA s d))
  | d + 1, .tuple cs => .tuple (cs.map (shA s d))
  | d + 1, .iface t v => .iface t (shA s d v)
  | 0, .agg _ => .undef
  | 0, .tuple _ => .undef
  | 0, .iface _ _ => .undef
  | _, v => v
def Col.sh (s : Nat) : Col → Col
  | .ints k f => .ints k f
  | .bools f => .bools f
  | .vals f => .vals fun i => shA s 1 (f i)
  | .one v => .one (shA s 1 v)
def Blk.sh (s : Nat) (B : Blk) : Blk := ⟨B.rows, B.cols.map (Col.sh s), B.st⟩
/-- Names farther on stand for what the nearer ones stand for. -/
theorem CA.sh {σ τ : Sg} {s : Nat} (hs : ∀ n k, σ n = some k → τ ⟨n.fam + s, n.idx⟩ = some k) : ∀ (d : Nat) {v' v : AV}, CA σ v' v → CA τ (shA s d v') v := by
  intro d
  induction d with
  | zero =>
    intro v' v h
    cases h with
    | agg cs ds hl hc => exact .undef _
    | tuple cs ds hl hc => exact .undef _
    | iface t v u hc => exact .undef _
    | ptr a b h1 h2 h3 => exact .ptr _ b (hs _ _ h1) h2 h3
    | slice a b es n c h1 h2 h3 => exact .slice _ b es n c (hs _ _ h1) h2 h3
    | undef v => exact .undef v
    | cell v hl => exact .cell v hl
    | _ => constructor
  | succ d ih =>
    intro v' v h
    cases h with
    | agg cs ds hl hc => exact .agg _ ds (by simpa using hl) fun i a b => by simpa using ih (hc i (by simpa using a) b)
    | tuple cs ds hl hc => exact .tuple _ ds (by simpa using hl) fun i a b => by simpa using ih (hc i (by simpa using a) b)
    | iface t v u hc => exact .iface t _ u (ih hc)
    | ptr a b h1 h2 h3 => exact .ptr _ b (hs _ _ h1) h2 h3
    | slice a b es n c h1 h2 h3 => exact .slice _ b es n c (hs _ _ h1) h2 h3
    | undef v => exact .undef v
    | cell v hl => exact .cell v hl
    | _ => constructor
theorem sh_at (s : Nat) (c : Col) (r : Nat) : (c.sh s).at r = shA s 1 (c.at r) := by
  cases c <;> rfl
theorem CB.sh {σ τ : Sg} {s : Nat} (hs : ∀ n k, σ n = some k → τ ⟨n.fam + s, n.idx⟩ = some k) {B' B : Blk} (h : CB σ B' B) : CB τ (B'.sh s) B := by
  obtain ⟨h1, h2, h3⟩ := h
  refine ⟨h1, by simpa [Blk.sh] using h2, fun i c' c r hc' hc hr => ?_⟩
  simp only [Blk.sh, List.getElem?_map] at hc'
  cases hq : B'.cols[i]? with
  | none => rw [hq] at hc'; cases hc'
  | some q =>
    rw [hq] at hc'
    simp only [Option.map_some, Option.some.injEq] at hc'
    subst hc'
    rw [sh_at]
    exact CA.sh hs 1 (h3 i q c r hq hc hr)

/-! ### A call that lays blocks of its own -/
/-- New blocks, one behind the other. -/
def newsK (Bs : List Blk) (h : Heap) (b : Nat) (K : Heap → Nat → Option R) : Option R :=
  match Bs with
  | [] => K h b
  | B :: t => bif (fam h b).isNone then newsK t (add h b B) (b + 1) K else none
def freshS (g : List AV → Option (AV × List Blk)) : Spec R := fun h base args K =>
  match g args with
  | some (v, Bs) => newsK (Bs.map (Blk.sh base)) h base (K (shA base 3 v))
  | none => none
/-- By the list's places: the names of a run. -/
def byL (S : List Nm) : Sg := fun n => bif Nat.beq n.idx 0 then S[n.fam]? else none
/-- What a run in the empty store comes to. -/
def FreshOk (s : Spec (AV × Heap × Nat)) (args : List AV) (v : AV) (Bs : List Blk) : Prop :=
  ∃ v1 h1 b1 S, s [] 0 args (fun v h b => some (v, h, b)) = some (v1, h1, b1) ∧ (∀ (i j : Nat) (k : Nm), S[i]? = some k → S[j]? = some k → i = j) ∧ S.length = Bs.length ∧ CA (byL S) v v1 ∧ ∀ (i : Nat) (B : Blk) (k : Nm), Bs[i]? = some B → S[i]? = some k → ∃ B1, get h1 k = some B1 ∧ CB (byL S) B B1
theorem news_run {Bs : List Blk} : ∀ {h : Heap} {b : Nat} {K : Heap → Nat → Option R} {r : R}, newsK Bs h b K = some r → ∃ h', K h' (b + Bs.length) = some r ∧ (∀ n, get h' n = if b ≤ n.fam ∧ n.fam < b + Bs.length then (if n.idx = 0 then Bs[n.fam - b]? else none) else get h n) := by
  induction Bs with
  | nil => intro h b K r hk; exact ⟨h, hk, fun n => by rw [if_neg (by simp only [List.length_nil]; omega)]⟩
  | cons B t ih =>
    intro h b K r hk
    simp only [newsK] at hk
    cases hb : (fam h b).isNone with
    | false => rw [hb] at hk; cases hk
    | true =>
      rw [hb, cond_true] at hk
      obtain ⟨h', k1, k2⟩ := ih hk
      refine ⟨h', by rw [List.length_cons, Nat.add_comm t.length 1, ← Nat.add_assoc]; exact k1, fun n => ?_⟩
      rw [k2 n, get_add]
      by_cases e : n.fam = b
      · have c : b ≤ n.fam ∧ n.fam < b + (B :: t).length := by simp only [List.length_cons]; omega
        rw [if_neg (by omega), if_pos e, if_pos c, e]
        simp
      · by_cases e2 : b + 1 ≤ n.fam ∧ n.fam < b + 1 + t.length
        · have c : b ≤ n.fam ∧ n.fam < b + (B :: t).length := by simp only [List.length_cons]; omega
          rw [if_pos e2, if_pos c]
          have : n.fam - b = (n.fam - (b + 1)) + 1 := by omega
          rw [this, List.getElem?_cons_succ]
        · rw [if_neg e2, if_neg e, if_neg (by simp only [List.length_cons]; omega)]
theorem news_one {Bs : List Blk} : ∀ {h : Heap} {b : Nat} {v : AV}, One (K3 h) fun K : (AV × Heap × Nat) → Option R => newsK Bs h b fun h b => K (v, h, b) := by
  induction Bs with
  | nil => intro h b v; exact .pure (by exact Keeps.refl h)
  | cons B t ih =>
    intro h b v
    simp only [newsK]
    refine .cond (fun hb => (ih (h := add h b B) (b := b + 1) (v := v)).mono fun a ha => ?_) fun _ => .none
    exact (add_keeps B hb).trans ha
theorem fresh_sound {f : FuncId} {s : Spec (AV × Heap × Nat)} {g : List AV → Option (AV × List Blk)} (hs : SoundSpec P f s)
    (hg : ∀ args v Bs, g args = some (v, Bs) → args.all (flat 3) = true ∧ FreshOk s args v Bs) : SoundSpec P f (freshS g : Spec R) := by
  refine ⟨hs.1, .of fun hp b' args => ?_, fun m U h base w args xs K r hU H hc hk' => ?_⟩
  · unfold freshS
    split
    · exact news_one
    · exact .none
  unfold freshS at hk'
  split at hk'
  · rename_i v Bs hv
    obtain ⟨f1, v1, h1, b1, S, f2, f3, f4, f5, f6⟩ := hg args v Bs hv
    obtain ⟨h2, k1, k2⟩ := news_run hk'
    refine Calls.mono (hs.2.2 (fun _ => none) (fun _ => True) [] 0 w args xs _ _ (fun _ _ => trivial) (HR.empty w) (hc.flat f1) f2) fun e w' he => ?_
    obtain ⟨v1', x, h1', b1', m1, rfl, q1, q0, q2, q3, q4⟩ := he
    cases q1
    have hkeep : ∀ k, k < w.heap.size → w'.heap[k]? = w.heap[k]? := fun k hk => q2.keep k hk fun n B L g => by simp [get, fam] at g
    let σ : Sg := fun n => bif Nat.ble base n.fam && Nat.blt n.fam (base + Bs.length) then byL S ⟨n.fam - base, n.idx⟩ else none
    let p : Nm → Bool := fun n => Nat.ble base n.fam && Nat.blt n.fam (base + Bs.length)
    have pin : ∀ n, p n = true ↔ base ≤ n.fam ∧ n.fam < base + Bs.length := fun n => by simp [p]
    have hsh : ∀ n k, byL S n = some k → σ ⟨n.fam + base, n.idx⟩ = some k := fun n k hk => by
      have hlt : n.fam < S.length := by
        unfold byL at hk
        cases hb : Nat.beq n.idx 0 with
        | false => rw [hb] at hk; cases hk
        | true => rw [hb, cond_true] at hk; exact (List.getElem?_eq_some_iff.1 hk).1
      have hp : p ⟨n.fam + base, n.idx⟩ = true := (pin _).2 ⟨by simp, by simp only; omega⟩
      show (bif p ⟨n.fam + base, n.idx⟩ then byL S ⟨n.fam + base - base, n.idx⟩ else none) = some k
      rw [hp, cond_true, Nat.add_sub_cancel]
      exact hk
    have hσ : ∀ n k, σ n = some k → p n = true ∧ n.idx = 0 ∧ S[n.fam - base]? = some k := fun n k hk => by
      have hk : (bif p n then byL S ⟨n.fam - base, n.idx⟩ else none) = some k := hk
      cases hp : p n with
      | false => rw [hp] at hk; cases hk
      | true =>
        rw [hp, cond_true] at hk
        unfold byL at hk
        cases hb : Nat.beq n.idx 0 with
        | false => simp only [hb, cond_false] at hk; cases hk
        | true => simp only [hb, cond_true] at hk; exact ⟨rfl, Nat.eq_of_beq_eq_true hb, hk⟩
    have H1 : HR m (above U base (base + Bs.length)) (get h) w' := ⟨fun n B g => (H.live n B g).mono m.le_refl fun L hL => hkeep L.b (H.bound n L hL).1, H.inj, fun n L g => ⟨Nat.lt_of_lt_of_le (H.bound n L g).1 q2.size, fun u => (H.bound n L g).2 u.1⟩⟩
    have H2 : HR (nam σ m1) (fun f => f < base ∨ base + Bs.length ≤ f) (fun n => bif p n then get h2 n else none) w' := by
      refine q3.cover (fun n n' k e e' => ?_) (fun n B' hn => ?_) (fun n k e => ?_)
      · obtain ⟨a1, a2, a3⟩ := hσ n k e
        obtain ⟨b1, b2, b3⟩ := hσ n' k e'
        have a4 := (pin n).1 a1
        have b4 := (pin n').1 b1
        have : n.fam - base = n'.fam - base := f3 _ _ k a3 b3
        exact nm_ext (by omega) (by omega)
      · have hp : p n = true := by
          cases hp : p n with
          | true => rfl
          | false => simp only [hp, cond_false] at hn; cases hn
        have hr := (pin n).1 hp
        simp only [hp, cond_true] at hn
        rw [k2 n, if_pos (by simpa using hr)] at hn
        split at hn
        · rename_i h0
          rw [List.getElem?_map] at hn
          cases hB : Bs[n.fam - base]? with
          | none => rw [hB] at hn; cases hn
          | some B =>
            rw [hB] at hn
            simp only [Option.map_some, Option.some.injEq] at hn
            subst hn
            have hlt : n.fam - base < S.length := by omega
            obtain ⟨B1, e1, e2⟩ := f6 _ B _ hB (List.getElem?_eq_getElem hlt)
            refine ⟨_, B1, ?_, e1, CB.sh hsh e2⟩
            have := hsh ⟨n.fam - base, 0⟩ _ (show byL S ⟨n.fam - base, 0⟩ = some S[n.fam - base] by simp [byL, List.getElem?_eq_getElem hlt])
            have e3 : (⟨n.fam - base + base, 0⟩ : Nm) = n := nm_ext (by simp only; omega) h0.symm
            exact (congrArg σ e3).symm.trans this
        · cases hn
      · have := (pin n).1 (hσ n k e).1
        omega
    have hm1 : ∀ n, p n = true → m n = none := fun n hp => by
      have := (pin n).1 hp
      exact H.fresh (hU _ this.1) n.idx
    have hm2 : ∀ n, p n = false → nam σ m1 n = none := fun n hp => by
      show (σ n).bind m1 = none
      cases hk : σ n with
      | none => rfl
      | some k => rw [(hσ n k hk).1] at hp; cases hp
    have hdis : ∀ n n' L L', m n = some L → nam σ m1 n' = some L' → (bif p n' then get h2 n' else none) ≠ none → L.b ≠ L'.b := fun n n' L L' a b c e => by
      have hlt := (H.bound n L a).1
      obtain ⟨B', hB'⟩ := Option.ne_none_iff_exists'.1 c
      cases hk : σ n' with
      | none => simp only [nam, hk, Option.bind_none] at b; cases b
      | some k =>
        simp only [nam, hk, Option.bind_some] at b
        obtain ⟨z1, z2, z3⟩ := hσ n' k hk
        have hr := (pin n').1 z1
        simp only [z1, cond_true] at hB'
        rw [k2 n', if_pos (by simpa using hr), if_pos z2, List.getElem?_map] at hB'
        cases hB : Bs[n'.fam - base]? with
        | none => rw [hB] at hB'; cases hB'
        | some B =>
          obtain ⟨B1, e1, e2⟩ := f6 _ B k hB z3
          obtain ⟨_, _, _, z, _⟩ := q2.old k B1 L' e1 b (e ▸ hlt)
          simp [get, fam] at z
    obtain ⟨H3, l1, l2⟩ := HR.glue (U := above U base (base + Bs.length)) p H1 H2 hm1 hm2 hdis (fun f hf => hf) (fun n L hn u => by
      cases hk : σ n with
      | none => simp only [nam, hk, Option.bind_none] at hn; cases hn
      | some k =>
        have := (pin n).1 (hσ n k hk).1
        rcases u.2 with u | u <;> omega)
    have hget : ∀ n, (bif p n then (bif p n then get h2 n else none) else get h n) = get h2 n := fun n => by
      cases hp : p n with
      | true => rfl
      | false =>
        simp only [cond_false]
        rw [k2 n, if_neg]
        intro c
        rw [(pin n).2 (by simpa using c)] at hp
        cases hp
    rw [funext hget] at H3
    have H3' : HR (fun n => bif p n then nam σ m1 n else m n) (above U base (base + (Bs.map (Blk.sh base)).length)) (get h2) w' := by
      rw [List.length_map]; exact H3
    refine ⟨shA base 3 v, x, h2, _, _, rfl, k1, by omega, ⟨l1, q2.size, fun k hk _ => hkeep k hk, fun n B L g1 g2 g3 => ?_, q2.os, q2.tape, q2.out⟩, H3', ((CA.sh hsh 3 f5).vr q4).mono l2⟩
    cases hp : p n with
    | false =>
      simp only [hp, cond_false] at g2
      rw [← hget n] at g1
      simp only [hp, cond_false] at g1
      exact ⟨n, B, L, g1, g2, rfl⟩
    | true =>
      exfalso
      simp only [hp, cond_true] at g2
      cases hk : σ n with
      | none => simp only [nam, hk, Option.bind_none] at g2; cases g2
      | some k =>
        simp only [nam, hk, Option.bind_some] at g2
        obtain ⟨z1, z2, z3⟩ := hσ n k hk
        have hr := (pin n).1 z1
        rw [k2 n, if_pos (by simpa using hr), if_pos z2, List.getElem?_map] at g1
        cases hB : Bs[n.fam - base]? with
        | none => rw [hB] at g1; cases g1
        | some B0 =>
          obtain ⟨B1, e1, e2⟩ := f6 _ B0 k hB z3
          obtain ⟨_, _, _, z, _⟩ := q2.old k B1 L e1 g2 g3
          simp [get, fam] at z
  · cases hk'
end
end Go.Proofs.YtipigcgegmedeaaGreat.Ev
