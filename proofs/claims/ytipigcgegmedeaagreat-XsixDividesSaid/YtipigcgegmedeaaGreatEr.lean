/- A region that draws its order, in the model. -/
import Derived.Test.YtipigcgegmedeaaGreatEp
namespace Go.Proofs.YtipigcgegmedeaaGreat.Ev
open Go
set_option linter.unusedVariables false
set_option linter.unusedSimpArgs false
variable {R : Type} {P : Program} {r : R} {m : Nam} {w : World} {o : Oper} {a : Act} {ts : List AV} {ds : List Deferred}

theorem eff_some {d : Dl} {base : Nat} {n : Nm} (h : (d.eff base n).isSome = true) : n.fam = base ∨ n ∈ d.wr := by
  cases d with
  | same => simp [Dl.eff] at h
  | new B =>
    simp only [Dl.eff, sel_eq, beq_cond] at h
    split at h
    · exact .inl (by assumption)
    · cases h
  | put k B =>
    simp only [Dl.eff, sel_eq, nm_beq] at h
    split at h
    · rename_i e; exact .inr (by rw [e]; simp [Dl.wr])
    · cases h
  | grow k B =>
    simp only [Dl.eff, sel_eq, beq_cond, nm_beq] at h
    split at h
    · exact .inl (by assumption)
    · split at h
      · rename_i e; exact .inr (by rw [e]; simp [Dl.wr])
      · cases h
theorem freeOf_spec {base : Nat} {x : Oc} {l : List Nm} (h : freeOf base x l = true) {n : Nm} (hn : n ∈ l) : x.eff base n = none := by
  have := List.all_eq_true.1 h n hn
  simpa using this
theorem oeff_some {x : Oc} {base : Nat} {n : Nm} (h : (x.eff base n).isSome = true) : n.fam = base ∨ n ∈ x.wr ∨ x.nb.isSome = true := by
  cases x with
  | skip => simp [Oc.eff] at h
  | val v d => rcases eff_some (d := d) h with h | h; exact .inl h; exact .inr (.inl h)
  | call v h h' B => exact .inr (.inr rfl)
theorem still_spec {x : Oc} (h : x.still = true) : (∀ b n, x.eff b n = none) ∧ x.nb = none := by
  unfold Oc.still at h
  split at h
  · exact ⟨fun b n => rfl, rfl⟩
  · exact ⟨fun b n => rfl, rfl⟩
  · cases h
/-- What an operation may look at. -/
def SeesP (ts : List AV) (o : Oper) (x : Oc) (n : Nm) : Prop := match x with
  | .skip => False
  | .val _ _ => n ∈ foot ts o
  | .call _ h0 _ _ => (get h0 n).isSome = true
theorem get_fam_none {h : Heap} {n : Nm} (e : (fam h n.fam).isNone = true) : get h n = none := by
  unfold get
  cases hf : fam h n.fam with
  | none => rfl
  | some F => rw [hf] at e; cases e
theorem new_eff {B : Blk} {b : Nat} {n : Nm} (h : n.fam ≠ b) : (Dl.new B).eff b n = none := by
  simp only [Dl.eff, sel_eq, beq_cond, if_neg h]
theorem pair_spec {bi bj : Nat} {xi xj : Oc} {tsi tsj : List AV} {oi oj : Oper} (hb : bi ≠ bj) (h : pairOk bi bj xi (sees tsi oi xi) xj (sees tsj oj xj) = true) :
    (∀ n, SeesP tsi oi xi n → xj.eff bj n = none) ∧ (∀ n, SeesP tsj oj xj n → xi.eff bi n = none) ∧ (∀ n, (xi.eff bi n).isSome = true → xj.eff bj n = none) ∧ (xi.nb.isSome = true → xj.nb = none) := by
  have one : ∀ {bi bj : Nat} {v : AV} {h0 h1 : Heap} {B : Nat} {xj : Oc} {tsj : List AV} {oj : Oper}, (xj.still && freeOf bi (.call v h0 h1 B) (sees tsj oj xj)) = true →
      (∀ n, xj.eff bj n = none) ∧ (∀ n, SeesP tsj oj xj n → (Oc.call v h0 h1 B).eff bi n = none) ∧ xj.nb = none := by
    intro bi bj v h0 h1 B xj tsj oj hs
    simp only [Bool.and_eq_true] at hs
    obtain ⟨q1, q2⟩ := still_spec hs.1
    refine ⟨q1 bj, fun n hn => ?_, q2⟩
    cases xj with
    | skip => cases hn
    | val v d => exact freeOf_spec hs.2 hn
    | call v h h' B => cases q2
  unfold pairOk at h
  split at h
  · rename_i v h0 h1 B
    cases hs : xj.still with
    | true =>
      rw [hs, Bool.true_or] at h
      obtain ⟨h1, h2, h3⟩ := one (bj := bj) (xj := xj) (tsj := tsj) (oj := oj) (v := v) (h0 := h0) (h1 := h1) (B := B) (bi := bi) (by rw [hs]; exact h)
      exact ⟨fun n _ => h1 n, h2, fun n _ => h1 n, fun _ => h3⟩
    | false =>
      rw [hs, Bool.false_or] at h
      simp only [Bool.and_eq_true] at h
      obtain ⟨hf, hr⟩ := h
      unfold Oc.fresh at hf
      split at hf
      · rename_i u Bn
        simp only [Bool.and_eq_true] at hf
        have ne0 : ∀ n : Nm, n.fam = bj → get h0 n = none := fun n e => get_fam_none (by rw [e]; exact hf.1)
        have ne1 : ∀ n : Nm, n.fam = bj → get h1 n = none := fun n e => get_fam_none (by rw [e]; exact hf.2)
        refine ⟨fun n hn => new_eff fun e => ?_, fun n hn => freeOf_spec hr hn, fun n hn => new_eff fun e => ?_, fun _ => rfl⟩
        · simp only [SeesP, ne0 n e] at hn; cases hn
        · simp only [Oc.eff, ne0 n e, ne1 n e] at hn; cases hn
      · cases hf
  · obtain ⟨h1, h2, h3⟩ := one (bj := bi) h
    exact ⟨h2, fun n _ => h1 n, fun n hn => (by rw [h1 n] at hn; cases hn), fun hn => (by rw [h3] at hn; cases hn)⟩
  · rename_i hi hj
    simp only [Bool.and_eq_true] at h
    have sp : ∀ {ts : List AV} {o : Oper} {x : Oc} {n : Nm}, x.nb.isSome = false → SeesP ts o x n → n ∈ sees ts o x := by
      intro ts o x n hx hn
      cases x with
      | skip => exact hn.elim
      | val v d => exact hn
      | call v h h' B => cases hx
    have ni : xi.nb.isSome = false := by
      cases xi with
      | call v h1 h2 B => exact absurd rfl (hi v h1 h2 B)
      | _ => rfl
    have nj : xj.nb.isSome = false := by
      cases xj with
      | call v h1 h2 B => exact absurd rfl (hj v h1 h2 B)
      | _ => rfl
    refine ⟨fun n hn => freeOf_spec h.2 (List.mem_append_left _ (sp ni hn)), fun n hn => freeOf_spec h.1 (List.mem_append_left _ (sp nj hn)), fun n hn => ?_, fun hn => (by rw [ni] at hn; cases hn)⟩
    rcases oeff_some hn with f1 | f1 | f1
    · cases he : xj.eff bj n with
      | none => rfl
      | some z =>
        rcases oeff_some (x := xj) (base := bj) (n := n) (by rw [he]; rfl) with f2 | f2 | f2
        · exact absurd (f1.symm.trans f2) hb
        · rw [freeOf_spec h.1 (List.mem_append_right _ f2)] at hn; cases hn
        · rw [nj] at f2; cases f2
    · exact freeOf_spec h.2 (List.mem_append_right _ f1)
    · rw [ni] at f1; cases f1
theorem nth_ext : ∀ (u v : List AV), u.length = v.length → (∀ d, d < u.length → nth u d = nth v d) → u = v
  | [], [], _, _ => rfl
  | [], y :: v, h, _ => by simp at h
  | x :: u, [], h, _ => by simp at h
  | x :: u, y :: v, h, hd => by
    have h0 : x = y := hd 0 (by simp)
    rw [h0, nth_ext u v (by simpa using h) fun d hl => hd (d + 1) (by simpa using hl)]
theorem rts_congr {S S' : Nat → Bool} : ∀ (L : List (Oper × Oc)) (i : Nat) (ts : List AV), (∀ k, k < L.length → S (i + k) = S' (i + k)) → rts L S i ts = rts L S' i ts := by
  intro L
  induction L with
  | nil => intro i ts _; rfl
  | cons p L ih =>
    intro i ts h
    obtain ⟨o, x⟩ := p
    have h0 := h 0 (by simp)
    rw [Nat.add_zero] at h0
    simp only [rts, h0]
    exact ih (i + 1) _ fun k hk => by have := h (k + 1) (by simpa using hk); rwa [show i + (k + 1) = i + 1 + k by omega] at this
theorem rg_congr {b0 : Nat} {S S' : Nat → Bool} : ∀ (L : List (Oper × Oc)) (i : Nat) (g : Gt), (∀ k, k < L.length → S (i + k) = S' (i + k)) → rg b0 L S i g = rg b0 L S' i g := by
  intro L
  induction L with
  | nil => intro i g _; rfl
  | cons p L ih =>
    intro i g h
    obtain ⟨o, x⟩ := p
    have h0 := h 0 (by simp)
    rw [Nat.add_zero] at h0
    simp only [rg, h0]
    exact ih (i + 1) _ fun k hk => by have := h (k + 1) (by simpa using hk); rwa [show i + (k + 1) = i + 1 + k by omega] at this
theorem filter_lt {α : Type} {p q : α → Bool} (hpq : ∀ x, q x = true → p x = true) : ∀ (l : List α), (∃ x ∈ l, p x = true ∧ q x = false) → (l.filter q).length < (l.filter p).length := by
  have le : ∀ l : List α, (l.filter q).length ≤ (l.filter p).length := by
    intro l
    induction l with
    | nil => simp
    | cons x l ih =>
      cases hq : q x with
      | true => simp [hq, hpq x hq, ih]
      | false => cases hp : p x <;> simp [hq, hp] <;> omega
  intro l
  induction l with
  | nil => rintro ⟨x, hx, _⟩; simp at hx
  | cons y l ih =>
    rintro ⟨x, hx, h1, h2⟩
    rcases List.mem_cons.1 hx with e | hx'
    · rw [e] at h1 h2
      have := le l
      simp [h1, h2]; omega
    · have := ih ⟨x, hx', h1, h2⟩
      cases hq : q y with
      | true => simp [hq, hpq y hq]; omega
      | false => cases hp : p y <;> simp [hq, hp] <;> omega
theorem wantB_wanted (T : TR m ts a) {ops : Array Oper} {b : Bool} (h : wantB ops ts o b) : Region.wanted o (yielded ops a.tmps) = b := by
  unfold wantB at h
  split at h
  · rename_i hg; rw [h]; simp [Region.wanted, hg]
  · rename_i j want hg
    obtain ⟨q, h1, ⟨t, h2, h3⟩ | ⟨rfl, cs, h2⟩⟩ := h
    · rw [wanted_bool T hg h1 h2, h3]
    · exact wanted_skip T hg h1 h2
theorem getD_set {l : Array Bool} {i : Nat} (hi : i < l.size) (j : Nat) : (l.setIfInBounds i true).getD j false = if j = i then true else l.getD j false := by
  by_cases h : j = i
  · subst h; simp [hi]
  · rw [if_neg h]; simp [Array.getElem?_setIfInBounds_ne (Ne.symm h)]

theorem Sound.way {D : Specs R} (hD : Sound P D) : Way D := fun f s h => (hD f s h).elim (fun q => q.2.1) fun q => q.1
/-- What a call is told of may be less than what there is: the rest stays. -/
theorem HR.frame {m m' : Nam} {U U' : Nat → Prop} {g g0 h2 gx : Gt} {w w' : World} (H : HR m U g w) (hsub : ∀ n B, g0 n = some B → g n = some B) (T : Tr m g0 w m' h2 w') (H2 : HR m' U' h2 w')
    (hx : ∀ n, gx n = h2 n ∨ (g0 n = none ∧ gx n = g n)) : Tr m g w m' gx w' ∧ HR m' U' gx w' := by
  have nm : ∀ n B, g n = some B → ∃ L, m n = some L := fun n B e => by
    obtain ⟨L, cs, e0, fz, g1, _⟩ := H.live n B e
    exact ⟨L, g1⟩
  have apart : ∀ n B L, g n = some B → g0 n = none → m n = some L → ∀ n' B' L', g0 n' = some B' → m n' = some L' → L'.b ≠ L.b := by
    intro n B L e e0 eL n' B' L' e' eL' eb
    have := H.inj n' n B' B L' L (hsub _ _ e') e eL' eL eb
    subst this
    rw [e0] at e'; cases e'
  refine ⟨⟨T.ext, T.size, fun b hb hn => T.keep b hb fun n B L e1 e2 => hn n B L (hsub _ _ e1) e2, fun n B L e1 e2 e3 => ?_, T.os, T.tape, T.out⟩, ⟨fun n B e => ?_, fun n n' B B' L L' e e' eL eL' eb => ?_, H2.bound⟩⟩
  · rcases hx n with c | ⟨c1, c2⟩
    · obtain ⟨k, B0, L0, q1, q2, q3⟩ := T.old n B L (c ▸ e1) e2 e3
      exact ⟨k, B0, L0, hsub _ _ q1, q2, q3⟩
    · rw [c2] at e1
      obtain ⟨L0, hL0⟩ := nm n B e1
      have := T.ext n L0 hL0
      rw [e2] at this; cases this
      exact ⟨n, B, L, e1, hL0, rfl⟩
  · rcases hx n with c | ⟨c1, c2⟩
    · exact H2.live n B (c ▸ e)
    · rw [c2] at e
      exact (H.live n B e).mono T.ext fun L hL => T.keep L.b (H.bound n L hL).1 fun n' B' L' e1 e2 => apart n B L e c1 hL n' B' L' e1 e2
  · have cross : ∀ n n' B B' L L', g n = some B → g0 n = none → h2 n' = some B' → m' n = some L → m' n' = some L' → L.b = L'.b → False := by
      intro n n' B B' L L' e e0 e' eL eL' eb
      obtain ⟨L0, hL0⟩ := nm n B e
      have := T.ext n L0 hL0
      rw [eL] at this; cases this
      obtain ⟨k, B0, Lk, q1, q2, q3⟩ := T.old n' B' L' e' eL' (eb ▸ (H.bound n L hL0).1)
      exact apart n B L e e0 hL0 k B0 Lk q1 q2 (q3.trans eb.symm)
    rcases hx n with c | ⟨c1, c2⟩ <;> rcases hx n' with d | ⟨d1, d2⟩
    · exact H2.inj n n' B B' L L' (c ▸ e) (d ▸ e') eL eL' eb
    · exact (cross n' n B' B L' L (d2 ▸ e') d1 (c ▸ e) eL' eL eb.symm).elim
    · exact (cross n n' B B' L L' (c2 ▸ e) c1 (d ▸ e') eL eL' eb).elim
    · rw [c2] at e; rw [d2] at e'
      obtain ⟨L0, hL0⟩ := nm n B e
      obtain ⟨L1, hL1⟩ := nm n' B' e'
      have a0 := T.ext n L0 hL0
      have a1 := T.ext n' L1 hL1
      rw [eL] at a0; cases a0
      rw [eL'] at a1; cases a1
      exact H.inj n n' B B' L L' e e' hL0 hL1 eb
theorem draw_wp {U : Nat → Prop} {b0 : Nat} (hU : ∀ f, b0 ≤ f → U f) {D : Specs R} (hD : Sound P D) {b : Nat} (hb : b0 ≤ b) (hm : P.follows .mixedOrders = true) {id : Nat} {ops : Array Oper} {Q : Exit → Act → World → Prop} {KK : KS R} {h : Heap} (H : HR m (above U b0 b) (get h) w) (T : TR m ts a) (hd : a.defers = ds)
    (hk : drawL P D ops b ops.toList 0 ts h (b + ops.size) [] (fun ts' h' B' F => bif drawOk ops b F then KK ts' h' B' else none) = some r)
    (hQ : ∀ ts' h' b' a' m' w', KK ts' h' b' = some r → b0 ≤ b' → Tr m (get h) w m' (get h') w' → HR m' (above U b0 b') (get h') w' → TR m' ts' a' → a'.defers = ds → Q .normal a' w') : (Code.region id ops true).wp P Q a w := by
  refine wp_region_any hm ?_
  obtain ⟨X, G, h', e1, e2, e3, e4, e5⟩ := drawL_trace hD.way _ _ _ _ _ _ hk
  simp only [List.nil_append] at e3
  generalize hL : ops.toList.zip X = L at e3 e4 e5
  cases hok : drawOk ops b G with
  | false => rw [hok] at e3; cases e3
  | true =>
  rw [hok] at e3
  simp only [cond_true] at e3
  have hn : L.length = ops.size := by rw [← hL]; simp [e1]
  have hLo : ∀ (k : Nat) (ok : Oper), ops[k]? = some ok → ∃ x, L[k]? = some (ok, x) := by
    intro k ok ho
    have hlt := (Array.getElem?_eq_some_iff.1 ho).1
    have hx : k < X.length := by rw [e1]; simpa using hlt
    refine ⟨X[k], ?_⟩
    rw [← hL, List.getElem?_zip_eq_some]
    exact ⟨by simpa using ho, List.getElem?_eq_getElem hx⟩
  have hLo' : ∀ (k : Nat) (ok : Oper) (x : Oc), L[k]? = some (ok, x) → ops[k]? = some ok := by
    intro k ok x hz
    rw [← hL, List.getElem?_zip_eq_some] at hz
    simpa using hz.1
  have hlow : ∀ (j : Nat) (ok : Oper) (e : Edge), ops[j]? = some ok → e ∈ ok.after → Region.binds .any e = true → e.on < j := drawOk_low hok
  -- all of them are done
  have fin : ∀ (listed : Array Bool) (a1 : Act) (m1 : Nam) (w1 : World), listed.size = ops.size → (∀ i, i < ops.size → listed.getD i false = true) →
      Tr m (get h) w m1 (rg b L (fun j => listed.getD j false) 0 (get h)) w1 → b + ops.size ≤ rB L (fun j => listed.getD j false) 0 (b + ops.size) →
      HR m1 (fun f => (above U b0 b f ∧ ∀ j, listed.getD j false = true → f ≠ b + j) ∧ (f < b + ops.size ∨ rB L (fun j => listed.getD j false) 0 (b + ops.size) ≤ f)) (rg b L (fun j => listed.getD j false) 0 (get h)) w1 →
      TR m1 (rts L (fun j => listed.getD j false) 0 ts) a1 → a1.defers = ds → Q .normal a1 w1 := by
    intro listed a1 m1 w1 hsz hall ht hB H1 T1 d1
    have c1 : rts L (fun j => listed.getD j false) 0 ts = rts L (fun _ => true) 0 ts := rts_congr L 0 ts fun k hk => by rw [Nat.zero_add]; exact hall k (hn ▸ hk)
    have c2 : rg b L (fun j => listed.getD j false) 0 (get h) = get h' := by rw [e4]; exact rg_congr L 0 _ fun k hk => by rw [Nat.zero_add]; exact hall k (hn ▸ hk)
    have c3 : rB L (fun j => listed.getD j false) 0 (b + ops.size) = rB L (fun _ => true) 0 (b + ops.size) := rB_agree L 0 _ fun k o' x' hk _ => by rw [Nat.zero_add]; exact hall k (hn ▸ (List.getElem?_eq_some_iff.1 hk).1)
    rw [c1] at T1
    rw [c2] at ht H1
    rw [c3] at hB H1
    refine hQ _ h' _ a1 m1 w1 e3 (by omega) ht (H1.anti fun f hf => ?_) T1 d1
    have hf2 := hf.2
    refine ⟨⟨⟨hf.1, by omega⟩, fun j hj e => ?_⟩, by omega⟩
    have : j < ops.size := by
      by_cases hjs : j < listed.size
      · omega
      · rw [Array.getD_eq_getD_getElem?, Array.getElem?_eq_none (by omega)] at hj; cases hj
    omega
  suffices key : ∀ (fuel : Nat) (listed : Array Bool) (a1 : Act) (m1 : Nam) (w1 : World), listed.size = ops.size → ((List.range ops.size).filter fun j => !listed.getD j false).length ≤ fuel →
      (∀ j oj e, ops[j]? = some oj → listed.getD j false = true → e ∈ oj.after → Region.binds .any e = true → listed.getD e.on false = true) →
      Tr m (get h) w m1 (rg b L (fun j => listed.getD j false) 0 (get h)) w1 → b + ops.size ≤ rB L (fun j => listed.getD j false) 0 (b + ops.size) →
      HR m1 (fun f => (above U b0 b f ∧ ∀ j, listed.getD j false = true → f ≠ b + j) ∧ (f < b + ops.size ∨ rB L (fun j => listed.getD j false) 0 (b + ops.size) ≤ f)) (rg b L (fun j => listed.getD j false) 0 (get h)) w1 →
      TR m1 (rts L (fun j => listed.getD j false) 0 ts) a1 → a1.defers = ds → wpAny P .any ops Q fuel listed a1 w1 by
    have z : ∀ j, (Array.replicate ops.size false).getD j false = false := fun j => by
      rw [Array.getD_eq_getD_getElem?, Array.getElem?_replicate]; split <;> rfl
    have z1 : rg b L (fun j => (Array.replicate ops.size false).getD j false) 0 (get h) = get h := by
      have := rg_take (b0 := b) L 0 0 (get h)
      rw [List.take_zero] at this
      rw [rg_congr (S' := fun j => decide (j < 0 + 0)) L 0 (get h) fun k _ => by rw [z]; simp, ← this]; rfl
    have z2 : rts L (fun j => (Array.replicate ops.size false).getD j false) 0 ts = ts := by
      have := rts_take L 0 0 ts
      rw [List.take_zero] at this
      rw [rts_congr (S' := fun j => decide (j < 0 + 0)) L 0 ts fun k _ => by rw [z]; simp, ← this]; rfl
    have z3 : rB L (fun j => (Array.replicate ops.size false).getD j false) 0 (b + ops.size) = b + ops.size := by
      have := rB_take L 0 0 (b + ops.size)
      rw [List.take_zero] at this
      rw [rB_agree (S' := fun j => decide (j < 0 + 0)) L 0 _ fun k _ _ _ _ => by rw [z]; simp, ← this]; rfl
    refine key ops.size _ a m { w with drawn := w.drawn + 1 } (by simp) (Nat.le_trans (List.length_filter_le _ _) (by simp)) (fun j oj e _ hj => by rw [z] at hj; cases hj) ?_ ?_ ?_ ?_ hd
    · rw [z1]; exact Tr.draw m (get h) w _
    · rw [z3]; exact Nat.le_refl _
    · rw [z1]; exact (H.draw _).anti fun f hf => hf.1.1
    · rw [z2]; exact T
  intro fuel
  induction fuel with
  | zero =>
    intro listed a1 m1 w1 hsz hun hcl ht hB H1 T1 d1
    have hall : ∀ i, i < ops.size → listed.getD i false = true := by
      intro i hi
      have : ((List.range ops.size).filter fun j => !listed.getD j false) = [] := List.eq_nil_of_length_eq_zero (by omega)
      have := List.filter_eq_nil_iff.1 this i (List.mem_range.2 hi)
      simpa using this
    refine ⟨?_, fin listed a1 m1 w1 hsz hall ht hB H1 T1 d1⟩
    cases hr : Region.ready .any ops listed with
    | nil => rfl
    | cons j l =>
      exfalso
      have hj : j ∈ Region.ready .any ops listed := by rw [hr]; simp
      obtain ⟨h0, oj, ho, _⟩ := mem_ready.1 hj
      have hlt := (Array.getElem?_eq_some_iff.1 ho).1
      have := hall j hlt
      have hjs : j < listed.size := by omega
      simp [Array.getD, hjs] at this h0
      rw [this] at h0; cases h0
  | succ fuel ih =>
    intro listed a1 m1 w1 hsz hun hcl ht hB H1 T1 d1
    refine ⟨fun hr => fin listed a1 m1 w1 hsz ?_ ht hB H1 T1 d1, fun i hi => ?_⟩
    · -- nothing is ready: all are done
      intro i
      induction i using Nat.strongRecOn with
      | _ i ihi =>
        intro hi
        cases hli : listed.getD i false with
        | true => rfl
        | false =>
          exfalso
          have : i ∈ Region.ready .any ops listed := by
            refine mem_ready.2 ⟨?_, ops[i], Array.getElem?_eq_getElem hi, fun e he hb => ?_⟩
            · have his : i < listed.size := by omega
              simp [Array.getD, his] at hli ⊢; exact hli
            · have hlt := hlow i ops[i] e (Array.getElem?_eq_getElem hi) he hb
              exact ihi e.on hlt (by omega)
          rw [hr] at this; cases this
    · obtain ⟨h0, oi, hoi, hes⟩ := mem_ready.1 hi
      have hilt := (Array.getElem?_eq_some_iff.1 hoi).1
      have his : i < listed.size := by omega
      have hDi : listed.getD i false = false := by simp [Array.getD, his] at h0 ⊢; exact h0
      obtain ⟨x, hLi⟩ := hLo i oi hoi
      obtain ⟨⟨hi', hgi, hop⟩, hGi⟩ := e5 i oi x hLi
      rw [rts_take, rB_take] at hop
      rw [rg_take] at hgi
      rw [rts_take] at hGi
      generalize htsi : rts L (fun j => decide (j < 0 + i)) 0 ts = tsi at hop hGi
      generalize hBi : rB L (fun j => decide (j < 0 + i)) 0 (b + ops.size) = Bi at hop
      -- what is not in order with i
      have uno : ∀ (k : Nat) (ok : Oper) (xk : Oc), k ≠ i → L[k]? = some (ok, xk) → listed.getD k false ≠ decide (k < i) →
          (∀ d, ok.dst = some d → d ∉ oi.looksAt ops) ∧ (∀ d, oi.dst = some d → ok.dst ≠ some d) ∧ (∀ n, SeesP tsi oi x n → xk.eff (b + k) n = none) ∧ (∀ n, (x.eff (b + i) n).isSome = true → xk.eff (b + k) n = none) ∧ (x.nb.isSome = true → xk.nb = none) := by
        intro k ok xk hki hLk hne
        have hok' := hLo' k ok xk hLk
        have hklt := (Array.getElem?_eq_some_iff.1 hok').1
        have hGk := (e5 k ok xk hLk).2
        rcases Nat.lt_or_gt_of_ne hki with hlt | hgt
        · -- ahead in the text, and not done
          have hDk : listed.getD k false = false := by
            cases hq : listed.getD k false with
            | false => rfl
            | true => rw [hq] at hne; simp [hlt] at hne
          rcases drawOk_pair hok hilt hlt with hp | hp
          · have := masks_ok (D := fun j => listed.getD j false = true) hlow hcl hoi hes hp
            rw [hDk] at this; cases this
          · obtain ⟨oa, ob, xa, xb, la, lb, f1, f2, f3, f4, p1, p2⟩ := hp
            rw [hok'] at f1; cases f1
            rw [hoi] at f2; cases f2
            rw [hGk] at f3; cases f3
            rw [hGi] at f4; cases f4
            obtain ⟨s1, s2, s3⟩ := Oper.apart_spec p1
            obtain ⟨r1, r2, r3, r4⟩ := pair_spec (by omega) p2
            refine ⟨s1, fun d hd he => (s2 d he) hd, r2, fun n hn => ?_, fun hn => ?_⟩
            · cases he : xk.eff (b + k) n with
              | none => rfl
              | some z => rw [r3 n (by rw [he]; rfl)] at hn; cases hn
            · cases he : xk.nb with
              | none => rfl
              | some z => rw [r4 (by rw [he]; rfl)] at hn; cases hn
        · have hDk : listed.getD k false = true := by
            cases hq : listed.getD k false with
            | true => rfl
            | false => rw [hq] at hne; exfalso; apply hne; simp; omega
          rcases drawOk_pair hok hklt hgt with hp | hp
          · have := masks_ok (D := fun j => listed.getD j false = true) hlow hcl hok' (fun e he hb => hcl k ok e hok' hDk he hb) hp
            rw [hDi] at this; cases this
          · obtain ⟨oa, ob, xa, xb, la, lb, f1, f2, f3, f4, p1, p2⟩ := hp
            rw [hoi] at f1; cases f1
            rw [hok'] at f2; cases f2
            rw [hGi] at f3; cases f3
            rw [hGk] at f4; cases f4
            obtain ⟨s1, s2, s3⟩ := Oper.apart_spec p1
            obtain ⟨r1, r2, r3, r4⟩ := pair_spec (by omega) p2
            exact ⟨s3, s2, r1, r3, r4⟩
      -- what i looks at is what it was in the order of the text
      have slot : ∀ d, d ∈ oi.looksAt ops → nth (rts L (fun j => listed.getD j false) 0 ts) d = nth tsi d := by
        intro d hdl
        rw [← htsi]
        refine rts_agree L 0 ts ts rfl rfl fun k ok xk hLk hdk => ?_
        simp only [Nat.zero_add]
        by_cases hki : k = i
        · subst hki; rw [hDi]; simp
        · cases hq : (listed.getD k false == decide (k < i)) with
          | true => simpa using hq
          | false => exact absurd hdl ((uno k ok xk hki hLk (by simpa using hq)).1 d hdk)
      have store : ∀ n, SeesP tsi oi x n → rg b L (fun j => listed.getD j false) 0 (get h) n = get hi' n := by
        intro n hns
        rw [hgi]
        refine rg_agree L 0 _ _ rfl fun k ok xk hLk hek => ?_
        simp only [Nat.zero_add] at hek ⊢
        by_cases hki : k = i
        · subst hki; rw [hDi]; simp
        · cases hq : (listed.getD k false == decide (k < i)) with
          | true => simpa using hq
          | false => rw [(uno k ok xk hki hLk (by simpa using hq)).2.2.1 n hns] at hek; cases hek
      have names : x.nb.isSome = true → rB L (fun j => listed.getD j false) 0 (b + ops.size) = Bi := by
        intro hx
        rw [← hBi]
        refine rB_agree L 0 _ fun k ok xk hLk hek => ?_
        simp only [Nat.zero_add]
        by_cases hki : k = i
        · subst hki; rw [hDi]; simp
        · cases hq : (listed.getD k false == decide (k < i)) with
          | true => simpa using hq
          | false => rw [(uno k ok xk hki hLk (by simpa using hq)).2.2.2.2 hx] at hek; cases hek
      have hev : ∀ y ∈ oi.op.operands, evA (rts L (fun j => listed.getD j false) 0 ts) y = evA tsi y := by
        intro y hy
        cases y with
        | tmp t => exact slot t (List.mem_append_left _ (List.mem_filterMap.2 ⟨.tmp t, by simpa using hy, rfl⟩))
        | _ => rfl
      have hwant : ∀ bb, wantB ops tsi oi bb → wantB ops (rts L (fun j => listed.getD j false) 0 ts) oi bb := by
        intro bb hw
        unfold wantB at hw ⊢
        split
        · rename_i hg; rw [hg] at hw; exact hw
        · rename_i j want hg
          rw [hg] at hw
          obtain ⟨q, h1, h2⟩ := hw
          refine ⟨q, h1, ?_⟩
          rw [slot q (by unfold Oper.looksAt; rw [hg]; exact List.mem_append_right _ (by simp [h1]))]
          exact h2
      -- behind i
      have hD' : (fun j => (listed.setIfInBounds i true).getD j false) = fun j => if j = i then true else listed.getD j false := funext fun j => getD_set his j
      have nts : rts L (fun j => (listed.setIfInBounds i true).getD j false) 0 ts = putD (rts L (fun j => listed.getD j false) 0 ts) oi.dst x.v := by
        rw [hD']
        refine nth_ext _ _ (by simp [rts_len, putD_len]) fun d hdl => ?_
        rw [rts_len] at hdl
        rw [nth_putD, rts_len]
        by_cases hdi : oi.dst = some d
        · rw [if_pos ⟨hdi, hdl⟩]
          refine rts_last L 0 ts i oi x hLi hdi (by simp) hdl fun j oj xj hj hLj hSj => ?_
          have hji : j ≠ i := by omega
          simp only [Nat.zero_add, if_neg hji] at hSj
          exact (uno j oj xj hji hLj (by rw [hSj]; simp; omega)).2.1 d hdi
        · rw [if_neg (fun q => hdi q.1)]
          refine rts_agree L 0 ts ts rfl rfl fun k ok xk hLk hdk => ?_
          by_cases hki : k = i
          · subst hki
            rw [hLi] at hLk
            cases hLk
            exact absurd hdk hdi
          · simp [hki]
      have ng : rg b L (fun j => (listed.setIfInBounds i true).getD j false) 0 (get h) = x.on (b + i) (rg b L (fun j => listed.getD j false) 0 (get h)) := by
        rw [hD']
        funext n
        simp only [Oc.on]
        cases hex : x.eff (b + i) n with
        | some z =>
          rw [Option.getD_some]
          refine rg_last L 0 (get h) i oi x z hLi (by rw [Nat.zero_add]; exact hex) (by simp) fun j oj xj hj hLj hSj => ?_
          have hji : j ≠ i := by omega
          simp only [Nat.zero_add, if_neg hji] at hSj ⊢
          exact (uno j oj xj hji hLj (by rw [hSj]; simp; omega)).2.2.2.1 n (by rw [hex]; rfl)
        | none =>
          rw [Option.getD_none]
          refine rg_agree L 0 _ _ rfl fun k ok xk hLk hek => ?_
          by_cases hki : k = i
          · subst hki
            rw [hLi] at hLk
            cases hLk
            simp only [Nat.zero_add] at hek
            rw [hex] at hek; cases hek
          · simp [hki]
      have nB : rB L (fun j => (listed.setIfInBounds i true).getD j false) 0 (b + ops.size) = x.nb.getD (rB L (fun j => listed.getD j false) 0 (b + ops.size)) := by
        rw [hD']
        cases hex : x.nb with
        | some z =>
          rw [Option.getD_some]
          refine rB_last L 0 _ i oi x z hLi hex (by simp) fun j oj xj hj hLj hSj => ?_
          have hji : j ≠ i := by omega
          simp only [Nat.zero_add, if_neg hji] at hSj ⊢
          exact (uno j oj xj hji hLj (by rw [hSj]; simp; omega)).2.2.2.2 (by rw [hex]; rfl)
        | none =>
          rw [Option.getD_none]
          refine rB_agree L 0 _ fun k ok xk hLk hek => ?_
          by_cases hki : k = i
          · subst hki
            rw [hLi] at hLk
            cases hLk
            rw [hex] at hek; cases hek
          · simp [hki]
      have hun' : ((List.range ops.size).filter fun j => !(listed.setIfInBounds i true).getD j false).length ≤ fuel := by
        have := filter_lt (p := fun j => !listed.getD j false) (q := fun j => !(listed.setIfInBounds i true).getD j false) (fun j hj => by
          rw [getD_set his] at hj
          split at hj
          · cases hj
          · exact hj) (List.range ops.size) ⟨i, List.mem_range.2 hilt, by rw [hDi]; rfl, by rw [getD_set his, if_pos rfl]; rfl⟩
        omega
      have hcl' : ∀ j oj e, ops[j]? = some oj → (listed.setIfInBounds i true).getD j false = true → e ∈ oj.after → Region.binds .any e = true → (listed.setIfInBounds i true).getD e.on false = true := by
        intro j oj e hoj hj he hb
        rw [getD_set his]
        split
        · rfl
        · rw [getD_set his] at hj
          split at hj
          · rename_i hji
            subst hji
            rw [hoi] at hoj
            cases hoj
            exact hes e he hb
          · exact hcl j oj e hoj hj he hb
      generalize hBc : rB L (fun j => listed.getD j false) 0 (b + ops.size) = Bc at hB H1 names nB
      have hfree : (above U b0 b (b + i) ∧ ∀ j, listed.getD j false = true → b + i ≠ b + j) ∧ (b + i < b + ops.size ∨ Bc ≤ b + i) := ⟨⟨⟨hU _ (by omega), .inr (by omega)⟩, fun j hj e => by
        have : j = i := by omega
        rw [this, hDi] at hj; cases hj⟩, .inl (by omega)⟩
      have next : ∀ (y : Value) (m2 : Nam) (w2 : World) (U2 : Nat → Prop), Tr m1 (rg b L (fun j => listed.getD j false) 0 (get h)) w1 m2 (x.on (b + i) (rg b L (fun j => listed.getD j false) 0 (get h))) w2 → Bc ≤ x.nb.getD Bc →
          HR m2 U2 (x.on (b + i) (rg b L (fun j => listed.getD j false) 0 (get h))) w2 → (∀ f, (above U b0 b f ∧ ∀ j, listed.getD j false = true → f ≠ b + j) → f ≠ b + i → (f < b + ops.size ∨ x.nb.getD Bc ≤ f) → U2 f) → VR m2 x.v y →
          wpAny P .any ops Q fuel (listed.setIfInBounds i true) (a1.put oi.dst y) w2 := by
        intro y m2 w2 U2 t2 hB2 H2 hU2 hv
        refine ih _ _ m2 w2 (by simpa using hsz) hun' hcl' ?_ ?_ ?_ ?_ (by cases oi.dst <;> exact d1)
        · rw [ng]; exact ht.trans t2
        · rw [nB]; omega
        · rw [ng, nB]
          refine H2.anti fun f hf => hU2 f ⟨hf.1.1, fun j hj => hf.1.2 j (by rw [getD_set his]; split; rfl; exact hj)⟩ (hf.1.2 i (by rw [getD_set his, if_pos rfl])) hf.2
        · rw [nts]; exact (T1.mono t2.ext).put hv oi.dst
      unfold wpOp
      simp only [hoi]
      rcases hop with ⟨hw, hval⟩ | ⟨hw, rfl⟩
      · rw [if_pos (wantB_wanted T1 (hwant true hw))]
        refine .inl ?_
        rcases hval with ⟨v, d, rfl, hc, _, hvd⟩ | ⟨c, f, g, s, v, h2, B2, rfl, hc, hf, hs, hkp, hk2⟩
        · have hvd' : evV P (rg b L (fun j => listed.getD j false) 0 (get h)) (b + i) (rts L (fun j => listed.getD j false) 0 ts) oi = some (v, d) := by
            rw [evV_congr hev store, ← hvd, Nat.zero_add]
          obtain ⟨v', d', y, m2, w2, q1, q0, q2, q3, q4, q5⟩ := evD_ok H1 hfree T1 hvd'
          cases q1
          have N := next y m2 w2 _ q2 (Nat.le_refl _) q3 (fun f h1 h2 h3 => ⟨⟨h1, h3⟩, fun _ => h2⟩) q4
          unfold Oper.wp
          rcases q5 with q5 | ⟨q5, q6⟩
          · rw [q5, Oper.upon_value]; exact N
          · rw [q5, Oper.upon_skip, ← q6]; exact N
        · have hsub : ∀ n B, get hi' n = some B → rg b L (fun j => listed.getD j false) 0 (get h) n = some B := fun n B e => by
            rw [store n (by show (get hi' n).isSome = true; rw [e]; rfl)]; exact e
          have hsame : ∀ n, ((Oc.call v hi' h2 B2).eff (b + i) n).isSome = true → rg b L (fun j => listed.getD j false) 0 (get h) n = get hi' n := by
            intro n hns
            rw [hgi]
            refine rg_agree L 0 _ _ rfl fun k ok xk hLk hek => ?_
            simp only [Nat.zero_add] at hek ⊢
            by_cases hki : k = i
            · subst hki; rw [hDi]; simp
            · cases hq : (listed.getD k false == decide (k < i)) with
              | true => simpa using hq
              | false => rw [(uno k ok xk hki hLk (by simpa using hq)).2.2.2.1 n hns] at hek; cases hek
          have H1s : HR m1 (fun f => (above U b0 b f ∧ ∀ j, listed.getD j false = true → f ≠ b + j) ∧ (f < b + ops.size ∨ Bc ≤ f)) (get hi') w1 :=
            ⟨fun n B e => H1.live n B (hsub n B e), fun n n' B B' L L' e e' => H1.inj n n' B B' L L' (hsub n B e) (hsub n' B' e'), H1.bound⟩
          have hx : ∀ n, (Oc.call v hi' h2 B2).on (b + i) (rg b L (fun j => listed.getD j false) 0 (get h)) n = get h2 n ∨ (get hi' n = none ∧ (Oc.call v hi' h2 B2).on (b + i) (rg b L (fun j => listed.getD j false) 0 (get h)) n = rg b L (fun j => listed.getD j false) 0 (get h) n) := by
            intro n
            have hon : get h2 n = (Oc.call v hi' h2 B2).on (b + i) (get hi') n := congrFun (call_on (v := v) (B := B2) (base := b + i) hkp) n
            cases hn : get hi' n with
            | some B0 =>
              left
              rw [hon]
              simp only [Oc.on]
              rw [hsub n B0 hn, hn]
            | none =>
              cases he : (Oc.call v hi' h2 B2).eff (b + i) n with
              | none => right; exact ⟨rfl, by simp only [Oc.on, he, Option.getD_none]⟩
              | some z => left; rw [hon]; simp only [Oc.on, he, Option.getD_some]
          obtain ⟨ho, hcc⟩ := callee_spec hc
          have hBB := names rfl
          have hf' : evA (rts L (fun j => listed.getD j false) 0 ts) f = .func g := by
            rw [hev f (by rw [ho]; simp only [Op.operands, Call.operands, hcc]; simp)]; exact hf
          have hargs : c.args.toList.map (evA (rts L (fun j => listed.getD j false) 0 ts)) = c.args.toList.map (evA tsi) := List.map_congr_left fun y hy => hev y (by rw [ho]; simp only [Op.operands, Call.operands]; exact Array.mem_append_right _ (by simpa using hy))
          rw [← hBB] at hk2
          let Kq : Kont R := fun v' h' b' => @ite _ (v' = v ∧ h' = h2 ∧ b' = B2) (Classical.propDecidable _) (some r) none
          have hU2 : ∀ f, Bc ≤ f → (above U b0 b f ∧ ∀ j, listed.getD j false = true → f ≠ b + j) ∧ (f < b + ops.size ∨ Bc ≤ f) := by
            intro f hf
            refine ⟨⟨⟨hU f (by omega), .inr (by omega)⟩, ?_⟩, .inr hf⟩
            intro j hj e
            have : j < ops.size := by
              by_cases hjs : j < listed.size
              · omega
              · rw [Array.getD_eq_getD_getElem?, Array.getElem?_eq_none (by omega)] at hj; cases hj
            omega
          have hkq : s hi' Bc (c.args.toList.map (evA (rts L (fun j => listed.getD j false) 0 ts))) Kq = some r := by rw [hargs, hk2]; simp [Kq]
          refine call_core (K := Kq) (r := r) (base := Bc) (h := hi') hD hU2 H1s T1 ho hcc hf' hs hkq ?_
          intro v' y h' b' m' w' q1 q0 q2 q3 q4
          have hq : v' = v ∧ h' = h2 ∧ b' = B2 := by
            by_cases hq : v' = v ∧ h' = h2 ∧ b' = B2
            · exact hq
            · simp [Kq, hq] at q1
          obtain ⟨rfl, rfl, rfl⟩ := hq
          obtain ⟨t2, t3⟩ := H1.frame hsub q2 q3 hx
          exact next y m' w' _ t2 q0 t3 (fun f h1 h2 h3 => ⟨⟨h1, by simp [Oc.nb] at h3; omega⟩, by simp [Oc.nb] at h3; omega⟩) q4
      · rw [if_neg (by rw [wantB_wanted T1 (hwant false hw)]; simp)]
        exact next undef m1 w1 _ (Tr.refl _ _ _) (Nat.le_refl _) H1 (fun f h1 h2 h3 => ⟨h1, h3⟩) (undef_vr m1)
end Go.Proofs.YtipigcgegmedeaaGreat.Ev
