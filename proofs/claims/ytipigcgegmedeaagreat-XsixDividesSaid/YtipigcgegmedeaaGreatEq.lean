/- The evaluator over code: blocks, loops, calls; what it comes to, the model comes to. -/
import Derived.Test.YtipigcgegmedeaaGreatEr
namespace Go.Proofs.YtipigcgegmedeaaGreat.Ev
open Go
set_option linter.unusedVariables false
set_option linter.unusedSimpArgs false
noncomputable section
variable {R : Type} {P : Program} {r : R} {m : Nam} {w : World} {o : Oper} {a : Act} {ts : List AV} {ds : List Deferred}

inductive Ex where
  | normal
  | exit (id : Nat)
  | ret
def Ex.real : Ex → Exit
  | .normal => .normal
  | .exit id => .exit id
  | .ret => .ret
abbrev KX (R : Type) := Ex → List AV → Heap → Nat → Option R
/-- The slots that are forgotten at a loop's head: told by the body's first region. -/
def firstRegion : Code → Nat
  | .region id _ _ => id
  | .seq a _ => firstRegion a
  | .cond _ a _ => firstRegion a
  | .block _ a => firstRegion a
  | .loop a => firstRegion a
  | .scope a => firstRegion a
  | _ => 0
def clearAll : List Nat → List AV → List AV
  | [], ts => ts
  | d :: l, ts => clearAll l (putAt ts d .undef)
def look : List (Nat × List Nat) → Nat → List Nat
  | [], _ => []
  | (k, l) :: t, n => bif Nat.beq k n then l else look t n
/-- A value brought to its head (for closed runs, so that the terms stay small). -/
def hdN {R : Type} (F : Bool) (n : Nat) (k : Nat → Option R) : Option R :=
  match F with
  | false => k n
  | true => match n with
    | 0 => k 0
    | p + 1 => k (p + 1)
def hdI {R : Type} (F : Bool) (n : Int) (k : Int → Option R) : Option R :=
  match F with
  | false => k n
  | true => match n with
    | .ofNat m => hdN true m fun m => k (.ofNat m)
    | .negSucc m => hdN true m fun m => k (.negSucc m)
def hdB {R : Type} (b : Bool) (k : Bool → Option R) : Option R :=
  match b with
  | true => k true
  | false => k false
def hdA {R : Type} : AV → (AV → Option R) → Option R
  | .bool b, k => hdB b fun b => k (.bool b)
  | .int i n, k => hdI true n fun n => k (.int i n)
  | .ptr (some ⟨⟨f, j⟩, r, c⟩), k => hdN true f fun f => hdN true j fun j => hdN true r fun r => hdN true c fun c => k (.ptr (some ⟨⟨f, j⟩, r, c⟩))
  | .slice ⟨⟨f, j⟩, r, c⟩ es n cap, k => hdN true f fun f => hdN true j fun j => hdN true r fun r => hdN true c fun c => hdN true n fun n => k (.slice ⟨⟨f, j⟩, r, c⟩ es n cap)
  | v, k => k v
def hdL {R : Type} : List AV → (List AV → Option R) → Option R
  | [], k => k []
  | v :: t, k => hdA v fun v => hdL t fun t => k (v :: t)
def hdC {R : Type} : List Col → (List Col → Option R) → Option R
  | [], k => k []
  | .one v :: t, k => hdA v fun v => hdC t fun t => k (.one v :: t)
  | .ints i f :: t, k => hdC t fun t => k (.ints i f :: t)
  | .bools f :: t, k => hdC t fun t => k (.bools f :: t)
  | .vals f :: t, k => hdC t fun t => k (.vals f :: t)
def hdH {R : Type} : Heap → (Heap → Option R) → Option R
  | [], k => k []
  | (n, .one ⟨r, c, s⟩) :: t, k => hdN true n fun n => hdN true r fun r => hdN true s fun s => hdC c fun c => hdH t fun t => k ((n, .one ⟨r, c, s⟩) :: t)
  | (n, .gone) :: t, k => hdN true n fun n => hdH t fun t => k ((n, .gone) :: t)
  | (n, .many l b) :: t, k => hdH t fun t => k ((n, .many l b) :: t)
def hd {R : Type} (F : Bool) (ts : List AV) (h : Heap) (b : Nat) (k : List AV → Heap → Nat → Option R) : Option R :=
  match F with
  | false => k ts h b
  | true => hdL ts fun ts => hdH h fun h => hdN true b fun b => k ts h b
theorem hdN_eq (F : Bool) (n : Nat) (k : Nat → Option R) : hdN F n k = k n := by cases F <;> cases n <;> rfl
theorem hdI_eq (F : Bool) (n : Int) (k : Int → Option R) : hdI F n k = k n := by cases F <;> cases n <;> simp [hdI, hdN_eq]
theorem hdB_eq (b : Bool) (k : Bool → Option R) : hdB b k = k b := by cases b <;> rfl
theorem hdA_eq (v : AV) (k : AV → Option R) : hdA v k = k v := by
  unfold hdA
  split
  · exact hdB_eq _ _
  · exact hdI_eq _ _ _
  · simp only [hdN_eq]
  · simp only [hdN_eq]
  · rfl
theorem hdL_eq : ∀ (ts : List AV) (k : List AV → Option R), hdL ts k = k ts
  | [], k => rfl
  | v :: t, k => by simp only [hdL, hdA_eq, hdL_eq t]
theorem hdC_eq : ∀ (c : List Col) (k : List Col → Option R), hdC c k = k c
  | [], k => rfl
  | .one v :: t, k => by simp only [hdC, hdA_eq, hdC_eq t]
  | .ints i f :: t, k => by simp only [hdC, hdC_eq t]
  | .bools f :: t, k => by simp only [hdC, hdC_eq t]
  | .vals f :: t, k => by simp only [hdC, hdC_eq t]
theorem hdH_eq : ∀ (h : Heap) (k : Heap → Option R), hdH h k = k h
  | [], k => rfl
  | (n, .one ⟨r, c, s⟩) :: t, k => by simp only [hdH, hdN_eq, hdC_eq, hdH_eq t]
  | (n, .gone) :: t, k => by simp only [hdH, hdN_eq, hdH_eq t]
  | (n, .many l b) :: t, k => by simp only [hdH, hdH_eq t]
theorem hd_eq (F : Bool) (ts : List AV) (h : Heap) (b : Nat) (k : List AV → Heap → Nat → Option R) : hd F ts h b k = k ts h b := by
  cases F
  · rfl
  · simp only [hd, hdL_eq, hdH_eq, hdN_eq]
def loopE (body : List AV → Heap → Nat → KX R → Option R) (clr : List Nat) : Nat → List AV → Heap → Nat → KX R → Option R
  | 0, _, _, _, _ => none
  | n + 1, ts, h, b, K => hd false (clearAll clr ts) h b fun ts h b => body ts h b fun e ts' h' b' => match e with
    | .normal => loopE body clr n ts' h' b' K
    | .exit i => K (.exit i) ts' h' b'
    | .ret => K .ret ts' h' b'
def seqK (K2 : KS R) (K : KX R) : KX R := fun e ts h b => match e with
  | .normal => K2 ts h b
  | .exit i => K (.exit i) ts h b
  | .ret => K .ret ts h b
def blockK (id : Nat) (K : KX R) : KX R := fun e ts h b => match e with
  | .normal => K .normal ts h b
  | .exit i => bif Nat.beq i id then K .normal ts h b else K (.exit i) ts h b
  | .ret => K .ret ts h b
def tell (c : Operand) (t : Bool) (ts : List AV) : List AV :=
  match c with
  | .tmp d => putAt ts d (.bool t)
  | _ => ts
def ev (P : Program) (D : Specs R) (n : Nat) (L : List (Nat × List Nat)) : Code → List AV → Heap → Nat → KX R → Option R
  | .skip, ts, h, b, K => K .normal ts h b
  | .region _ ops draw, ts, h, b, K => bif draw then (bif P.follows .mixedOrders then drawL P D ops b ops.toList 0 ts h (b + ops.size) [] (fun ts' h' B' F => bif drawOk ops b F then K .normal ts' h' B' else none) else none)
    else evL P D ops ops.toList ts h b (K .normal)
  | .seq x y, ts, h, b, K => ev P D n L x ts h b (seqK (fun ts' h' b' => ev P D n L y ts' h' b' K) K)
  | .cond c x y, ts, h, b, K => match evA ts c with
    | .bool t => bif t then ev P D n L x (tell c true ts) h b K else ev P D n L y (tell c false ts) h b K
    | _ => none
  | .block id x, ts, h, b, K => ev P D n L x ts h b (blockK id K)
  | .loop x, ts, h, b, K => loopE (ev P D n L x) (look L (firstRegion x)) n ts h b K
  | .exit id, ts, h, b, K => K (.exit id) ts h b
  | .label _, ts, h, b, K => K .normal ts h b
  | .ret, ts, h, b, K => K .ret ts h b
  | _, _, _, _, _ => none

/-! ### Each goes on in one way alone -/
def One {α : Type} (Φ : α → Prop) (F : (α → Option R) → Option R) : Prop := ∃ q : Option α, (∀ K, F K = q.bind K) ∧ ∀ a, q = some a → Φ a
theorem One.none {α : Type} {Φ : α → Prop} : One Φ (fun _ : α → Option R => (Option.none : Option R)) := ⟨Option.none, fun K => rfl, fun a e => by cases e⟩
theorem One.pure {α : Type} {Φ : α → Prop} {a : α} (h : Φ a) : One Φ (fun K : α → Option R => K a) := ⟨some a, fun K => rfl, fun b e => by cases e; exact h⟩
theorem One.comp {α β : Type} {Φ : α → Prop} {Ψ : β → Prop} {F : (α → Option R) → Option R} {G : α → (β → Option R) → Option R} (hF : One Φ F) (hG : ∀ a, Φ a → One Ψ (G a)) : One Ψ fun K => F fun a => G a K := by
  obtain ⟨q, hq, hp⟩ := hF
  cases q with
  | none => exact ⟨Option.none, fun K => hq _, fun a e => by cases e⟩
  | some a => obtain ⟨q2, h2, h3⟩ := hG a (hp a rfl); exact ⟨q2, fun K => (hq _).trans (h2 K), h3⟩
theorem One.cond {α : Type} {Φ : α → Prop} {b : Bool} {F G : (α → Option R) → Option R} (hF : b = true → One Φ F) (hG : b = false → One Φ G) : One Φ fun K => bif b then F K else G K := by
  cases b
  · exact hG rfl
  · exact hF rfl
theorem One.mono {α : Type} {Φ Ψ : α → Prop} {F : (α → Option R) → Option R} (h : One Φ F) (hp : ∀ a, Φ a → Ψ a) : One Ψ F := by
  obtain ⟨q, hq, h3⟩ := h
  exact ⟨q, hq, fun a e => hp a (h3 a e)⟩
abbrev K3 (h : Heap) (p : AV × Heap × Nat) : Prop := Keeps h p.2.1
abbrev K4 (h : Heap) (p : List AV × Heap × Nat) : Prop := Keeps h p.2.1
abbrev K5 (h : Heap) (p : Ex × List AV × Heap × Nat) : Prop := Keeps h p.2.2.1
theorem OneWay.one {s : Spec R} (h : OneWay s) (hp : Heap) (b : Nat) (args : List AV) : One (K3 hp) fun K : (AV × Heap × Nat) → Option R => s hp b args fun v h b => K (v, h, b) := by
  obtain ⟨q, hq, h3⟩ := h hp b args
  exact ⟨q, fun K => hq _, h3⟩
theorem OneWay.of {s : Spec R} (h : ∀ hp b args, One (K3 hp) fun K : (AV × Heap × Nat) → Option R => s hp b args fun v h b => K (v, h, b)) : OneWay s := by
  intro hp b args
  obtain ⟨q, hq, h3⟩ := h hp b args
  exact ⟨q, fun K => hq fun p => K p.1 p.2.1 p.2.2, h3⟩
theorem evD_one (g : Gt) (base : Nat) (ts : List AV) (o : Oper) : One (fun p : AV × Dl => Fits g p.2) fun K : (AV × Dl) → Option R => evD P g base ts o fun v d => K (v, d) :=
  ⟨evV P g base ts o, fun K => evD_nat g base _, fun p e => evV_fits g base p.1 p.2 e⟩
theorem evOp_one {D : Specs R} (hD : Way D) (ts : List AV) (h : Heap) (b : Nat) (o : Oper) : One (K3 h) fun K : (AV × Heap × Nat) → Option R => evOp P D ts h b o fun v h b => K (v, h, b) := by
  unfold evOp
  split
  · split
    · split
      · rename_i s hs; exact (hD _ s hs).one _ _ _
      · exact .none
    · exact .none
  · exact (evD_one (get h) b ts o).comp (Ψ := K3 h) (G := fun p K => bif newOk h b p.2 then K (p.1, p.2.app h b, p.2.nxt b) else Option.none) fun p hf => .cond (fun hn => .pure (by exact app_keeps hf hn)) fun _ => .none
theorem evL_one {D : Specs R} (hD : Way D) (ops : Array Oper) : ∀ (l : List Oper) (ts : List AV) (h : Heap) (b : Nat), One (K4 h) fun K : (List AV × Heap × Nat) → Option R => evL P D ops l ts h b fun ts h b => K (ts, h, b) := by
  intro l
  induction l with
  | nil => intro ts h b; exact .pure (.refl h)
  | cons o l ih =>
    intro ts h b
    have hop : ∀ ts, One (K4 h) fun K : (List AV × Heap × Nat) → Option R => evOp P D ts h b o fun v h' b' => evL P D ops l (putD ts o.dst v) h' b' fun ts h b => K (ts, h, b) := fun ts =>
      (evOp_one hD ts h b o).comp (G := fun p K => evL P D ops l (putD ts o.dst p.1) p.2.1 p.2.2 fun ts h b => K (ts, h, b)) fun p hp => (ih _ _ _).mono fun a ha => hp.trans ha
    simp only [evL]
    split
    · exact hop ts
    · rename_i j want hg
      split
      · split
        · refine .cond (fun _ => ?_) (fun _ => ?_) <;> (cases want <;> first | exact hop _ | exact ih _ _ _)
        · exact ih _ _ _
        · exact .none
      · exact .none
theorem drawE_one {D : Specs R} (hD : Way D) (ts : List AV) (h : Heap) (b B : Nat) (o : Oper) : One (fun x : Oc => Keeps h (x.app h b)) fun K : Oc → Option R => drawE P D h b B ts o K := by
  unfold drawE
  split
  · split
    · split
      · rename_i s hs; exact ((hD _ s hs).one _ _ _).comp (Ψ := fun x : Oc => Keeps h (x.app h b)) (G := fun p K => K (Oc.call p.1 h p.2.1 p.2.2)) fun p hp => .pure (by exact hp)
      · exact .none
    · exact .none
  · exact (evD_one (get h) b ts o).comp (Ψ := fun x : Oc => Keeps h (x.app h b)) (G := fun p K => bif newOk h b p.2 then K (Oc.val p.1 p.2) else Option.none) fun p hf => .cond (fun hn => .pure (by exact app_keeps hf hn)) fun _ => .none
theorem drawOp_one {D : Specs R} (hD : Way D) (ops : Array Oper) (ts : List AV) (h : Heap) (b B : Nat) (o : Oper) : One (fun p : List AV × Oc => Keeps h (p.2.app h b)) fun K : (List AV × Oc) → Option R => drawOp P D h b B ops ts o fun ts x => K (ts, x) := by
  have hop : ∀ ts, One (fun p : List AV × Oc => Keeps h (p.2.app h b)) fun K : (List AV × Oc) → Option R => drawE P D h b B ts o fun x => K (ts, x) := fun ts => (drawE_one hD ts h b B o).comp (G := fun p K => K (ts, p)) fun p hp => .pure hp
  unfold drawOp
  split
  · exact hop ts
  · rename_i j want hg
    split
    · split
      · refine .cond (fun _ => ?_) (fun _ => ?_) <;> (cases want <;> first | exact hop _ | exact .pure (.refl h))
      · exact .pure (.refl h)
      · exact .none
    · exact .none
theorem drawL_one {D : Specs R} (hD : Way D) (ops : Array Oper) (b0 : Nat) : ∀ (l : List Oper) (i : Nat) (ts : List AV) (h : Heap) (B : Nat) (F : List (Oc × List Nm)), One (fun p : List AV × Heap × Nat × List (Oc × List Nm) => Keeps h p.2.1) fun K : (List AV × Heap × Nat × List (Oc × List Nm)) → Option R => drawL P D ops b0 l i ts h B F fun ts h B F => K (ts, h, B, F) := by
  intro l
  induction l with
  | nil => intro i ts h B F; exact .pure (.refl h)
  | cons o l ih =>
    intro i ts h B F
    exact (drawOp_one hD ops ts h (b0 + i) B o).comp (G := fun p K => drawL P D ops b0 l (i + 1) (putD p.1 o.dst p.2.v) (p.2.app h (b0 + i)) (p.2.nb.getD B) (F ++ [(p.2, sees p.1 o p.2)]) fun ts h B F => K (ts, h, B, F)) fun p hp => (ih _ _ _ _ _).mono fun a ha => hp.trans ha
def cur (K : (Ex × List AV × Heap × Nat) → Option R) : KX R := fun e ts h b => K (e, ts, h, b)
theorem loop_one {body : List AV → Heap → Nat → KX R → Option R} (hb : ∀ ts h b, One (K5 h) fun K => body ts h b (cur K)) (clr : List Nat) : ∀ (n : Nat) (ts : List AV) (h : Heap) (b : Nat), One (K5 h) fun K => loopE body clr n ts h b (cur K) := by
  intro n
  induction n with
  | zero => intro ts h b; exact .none
  | succ n ih =>
    intro ts h b
    simp only [loopE, hd_eq]
    refine (hb (clearAll clr ts) h b).comp (G := fun p K => match p.1 with
      | .normal => loopE body clr n p.2.1 p.2.2.1 p.2.2.2 (cur K)
      | .exit i => K (.exit i, p.2.1, p.2.2.1, p.2.2.2)
      | .ret => K (.ret, p.2.1, p.2.2.1, p.2.2.2)) fun p hp => ?_
    obtain ⟨e, ts, h, b⟩ := p
    cases e with
    | normal => exact (ih _ _ _).mono fun a ha => hp.trans ha
    | exit i => exact .pure hp
    | ret => exact .pure hp
theorem ev_one {D : Specs R} (hD : Way D) (n : Nat) (L : List (Nat × List Nat)) : ∀ (c : Code) (ts : List AV) (h : Heap) (b : Nat), One (K5 h) fun K => ev P D n L c ts h b (cur K) := by
  intro c
  induction c with
  | skip => intro ts h b; exact .pure (.refl h)
  | label l => intro ts h b; exact .pure (.refl h)
  | exit id => intro ts h b; exact .pure (.refl h)
  | ret => intro ts h b; exact .pure (.refl h)
  | region id ops draw =>
    intro ts h b
    cases draw with
    | true =>
      simp only [ev, cond_true]
      refine .cond (fun _ => (drawL_one hD ops b ops.toList 0 ts h (b + ops.size) []).comp (G := fun p K => bif drawOk ops b p.2.2.2 then K (Ex.normal, p.1, p.2.1, p.2.2.1) else Option.none) fun p hp => .cond (fun _ => .pure (by exact hp)) fun _ => .none) fun _ => .none
    | false =>
      simp only [ev, cond_false]
      exact (evL_one hD ops ops.toList ts h b).comp (Ψ := K5 h) (G := fun p K => K (Ex.normal, p.1, p.2.1, p.2.2)) fun p hp => .pure (by exact hp)
  | seq x y ihx ihy =>
    intro ts h b
    simp only [ev]
    refine (ihx ts h b).comp (G := fun p K => seqK (fun ts' h' b' => ev P D n L y ts' h' b' (cur K)) (cur K) p.1 p.2.1 p.2.2.1 p.2.2.2) fun p hp => ?_
    obtain ⟨e, ts, h, b⟩ := p
    cases e with
    | normal => exact (ihy _ _ _).mono fun a ha => hp.trans ha
    | exit i => exact .pure hp
    | ret => exact .pure hp
  | cond c x y ihx ihy =>
    intro ts h b
    simp only [ev]
    split
    · exact .cond (fun _ => ihx _ _ _) fun _ => ihy _ _ _
    · exact .none
  | block id x ihx =>
    intro ts h b
    simp only [ev]
    refine (ihx ts h b).comp (G := fun p K => blockK id (cur K) p.1 p.2.1 p.2.2.1 p.2.2.2) fun p hp => ?_
    obtain ⟨e, ts, h, b⟩ := p
    cases e with
    | normal => exact .pure hp
    | exit i => exact .cond (fun _ => .pure hp) fun _ => .pure hp
    | ret => exact .pure hp
  | loop x ihx =>
    intro ts h b
    simp only [ev]
    exact loop_one ihx _ n ts h b
  | _ => intro ts h b; simp only [ev]; exact .none

theorem TR.clear : ∀ (l : List Nat) (ts : List AV), TR m ts a → TR m (clearAll l ts) a
  | [], ts, h => h
  | d :: l, ts, h => by
    refine TR.clear l _ ⟨by rw [putAt_len]; exact h.1, fun i h1 h2 => ?_⟩
    rw [putAt_get]
    split
    · exact .undef _
    · exact h.2 i (by rw [putAt_len] at h1; exact h1) h2
def KOk (ds : List Deferred) (U : Nat → Prop) (b0 : Nat) (Q : Exit → Act → World → Prop) (m : Nam) (h : Heap) (w : World) (K : KX R) (r : R) : Prop :=
  ∀ e ts' h' b' a' m' w', K e ts' h' b' = some r → b0 ≤ b' → Tr m (get h) w m' (get h') w' → HR m' (above U b0 b') (get h') w' → TR m' ts' a' → a'.defers = ds → Q e.real a' w'
theorem ev_wp {U : Nat → Prop} {b0 : Nat} (hU : ∀ f, b0 ≤ f → U f) {D : Specs R} (hD : Sound P D) (n : Nat) (L : List (Nat × List Nat)) : ∀ (c : Code) (ts : List AV) (h : Heap) (b : Nat) (K : KX R) (m : Nam) (w : World) (a : Act) (Q : Exit → Act → World → Prop), b0 ≤ b → HR m (above U b0 b) (get h) w → TR m ts a → a.defers = ds → ev P D n L c ts h b K = some r → KOk ds U b0 Q m h w K r → c.wp P Q a w := by
  intro c
  induction c with
  | skip => intro ts h b K m w a Q hb H T hd hk hq; exact wp_skip (hq .normal ts h b a m w hk hb (Tr.refl m (get h) w) H T hd)
  | label l => intro ts h b K m w a Q hb H T hd hk hq; exact wp_label (hq .normal ts h b a m w hk hb (Tr.refl m (get h) w) H T hd)
  | exit id => intro ts h b K m w a Q hb H T hd hk hq; exact wp_exit (hq (.exit id) ts h b a m w hk hb (Tr.refl m (get h) w) H T hd)
  | ret => intro ts h b K m w a Q hb H T hd hk hq; exact wp_ret (hq .ret ts h b a m w hk hb (Tr.refl m (get h) w) H T hd)
  | region id ops draw =>
    intro ts h b K m w a Q hb H T hd hk hq
    cases draw with
    | true =>
      simp only [ev, cond_true] at hk
      cases hm : P.follows .mixedOrders with
      | false => rw [hm] at hk; cases hk
      | true =>
        rw [hm] at hk
        exact draw_wp (KK := K .normal) hU hD hb hm H T hd hk (fun ts' h' b' a' m' w' q1 q0 q2 q3 q4 q5 => hq .normal ts' h' b' a' m' w' q1 q0 q2 q3 q4 q5)
    | false =>
      simp only [ev, cond_false] at hk
      refine wp_region_list (list_wp (KK := K .normal) hU hD (fun ts' h' b' a' m' w' q1 q0 q2 q3 q4 q5 => hq .normal ts' h' b' a' m' w' q1 q0 q2 q3 q4 q5) _ ts h b a m w hb (Tr.refl m (get h) w) H T hd hk)
  | seq x y ihx ihy =>
    intro ts h b K m w a Q hb H T hd hk hq
    simp only [ev] at hk
    refine wp_seq (ihx ts h b _ m w a _ hb H T hd hk fun e ts' h' b' a' m' w' q1 q0 q2 q3 q4 q5 => ?_)
    cases e with
    | normal => exact ihy ts' h' b' K m' w' a' Q q0 q3 q4 q5 q1 fun e2 ts2 h2 b2 a2 m2 w2 p1 p0 p2 p3 p4 p5 => hq e2 ts2 h2 b2 a2 m2 w2 p1 p0 (q2.trans p2) p3 p4 p5
    | exit i => exact hq (.exit i) ts' h' b' a' m' w' q1 q0 q2 q3 q4 q5
    | ret => exact hq .ret ts' h' b' a' m' w' q1 q0 q2 q3 q4 q5
  | cond c x y ihx ihy =>
    intro ts h b K m w a Q hb H T hd hk hq
    simp only [ev] at hk
    have hc := T.eval c
    split at hk
    · rename_i t ht
      rw [ht] at hc
      refine wp_cond (bool_real hc) ?_
      have ht' : tell c t ts = ts := by
        cases c with
        | tmp d => exact putAt_same ts d _ ht
        | _ => rfl
      cases t with
      | true => rw [ht'] at hk; exact ihx ts h b K m w a Q hb H T hd hk hq
      | false => rw [ht'] at hk; exact ihy ts h b K m w a Q hb H T hd hk hq
    · cases hk
  | block id x ihx =>
    intro ts h b K m w a Q hb H T hd hk hq
    simp only [ev] at hk
    refine wp_block (ihx ts h b _ m w a _ hb H T hd hk fun e ts' h' b' a' m' w' q1 q0 q2 q3 q4 q5 => ?_)
    cases e with
    | normal => exact hq .normal ts' h' b' a' m' w' q1 q0 q2 q3 q4 q5
    | exit i =>
      simp only [blockK, beq_cond] at q1
      simp only [Ex.real, Exit.inBlock]
      split at q1
      · rename_i hi; rw [if_pos hi]; exact hq .normal ts' h' b' a' m' w' q1 q0 q2 q3 q4 q5
      · rename_i hi; rw [if_neg hi]; exact hq (.exit i) ts' h' b' a' m' w' q1 q0 q2 q3 q4 q5
    | ret => exact hq .ret ts' h' b' a' m' w' q1 q0 q2 q3 q4 q5
  | loop x ihx =>
    intro ts h b K m w a Q hb H T hd hk hq
    simp only [ev] at hk
    generalize look L (firstRegion x) = clr at hk
    suffices hr : ∀ k ts1 h1 b1 m1 w1 a1, b0 ≤ b1 → Tr m (get h) w m1 (get h1) w1 → HR m1 (above U b0 b1) (get h1) w1 → TR m1 ts1 a1 → a1.defers = ds → loopE (ev P D n L x) clr k ts1 h1 b1 K = some r → Code.rounds P x Q k a1 w1 from
      wp_loop_rounds n (hr n ts h b m w a hb (Tr.refl m (get h) w) H T hd hk)
    intro k
    induction k with
    | zero => intro ts1 h1 b1 m1 w1 a1 _ _ _ _ _ hk; simp [loopE] at hk
    | succ k ih =>
      intro ts1 h1 b1 m1 w1 a1 hb1 t1 H1 T1 d1 hk
      simp only [loopE, hd_eq] at hk
      rw [rounds_succ]
      refine ihx _ h1 b1 _ m1 w1 a1 _ hb1 H1 (TR.clear clr ts1 T1) d1 hk fun e ts' h' b' a' m' w' q1 q0 q2 q3 q4 q5 => ?_
      cases e with
      | normal => exact ih ts' h' b' m' w' a' q0 (t1.trans q2) q3 q4 q5 q1
      | exit i => exact hq (.exit i) ts' h' b' a' m' w' q1 q0 (t1.trans q2) q3 q4 q5
      | ret => exact hq .ret ts' h' b' a' m' w' q1 q0 (t1.trans q2) q3 q4 q5
  | _ => intro ts h b K m w a Q hb H T hd hk hq; simp [ev] at hk

def resE : List ResultVar → List AV → Option (List AV)
  | [], _ => some []
  | .tmp t :: l, ts => match resE l ts with
    | some vs => some (nth ts t :: vs)
    | none => none
  | _, _ => none
def one : List AV → AV
  | [v] => v
  | vs => .tuple vs
def fills : Nat → List AV
  | 0 => []
  | n + 1 => .tuple [] :: fills n
/-- A function by its own tree. -/
def evFn (P : Program) (D : Specs R) (n : Nat) (L : List (Nat × List Nat)) (fn : Func) : Spec R := fun h base args K =>
  match fn.body with
  | some c => hd false (args ++ fills (fn.ntmps - args.length)) h base fun ts h base => ev P D n L c ts h base fun e ts h' b' => match e with
    | .exit _ => none
    | _ => match resE fn.results.toList ts with
      | some vs => K (one vs) h' b'
      | none => none
  | none => none
theorem fills_len : ∀ n, (fills n).length = n
  | 0 => rfl
  | n + 1 => by simp [fills, fills_len n]
theorem fills_get : ∀ (n i : Nat) (h : i < (fills n).length), (fills n)[i] = .tuple []
  | 0, i, h => by simp [fills] at h
  | n + 1, 0, h => rfl
  | n + 1, i + 1, h => by simpa [fills] using fills_get n i (by simpa [fills] using h)
theorem res_real (T : TR m ts a) (w : World) : ∀ (l : List ResultVar) (vs : List AV), resE l ts = some vs →
    ∃ xs : List Value, (l.mapM (m := Sem) fun | .tmp t => pure (a.tmps.getD t undef) | .cell q t => do loadVar t (← asAddr (a.tmps.getD q undef))).run P w = .ok xs w ∧ CR m vs xs := by
  intro l
  induction l with
  | nil => intro vs h; simp only [resE, Option.some.injEq] at h; subst h; exact ⟨[], by simp, rfl, fun i h => by simp at h⟩
  | cons x l ih =>
    intro vs h
    cases x with
    | tmp t =>
      simp only [resE] at h
      split at h
      · rename_i vs' hvs
        cases h
        obtain ⟨xs, x1, x2⟩ := ih vs' hvs
        refine ⟨a.tmps.getD t undef :: xs, ?_, CR.of (by simp [x2.1]) fun i v hv => ?_⟩
        · simp only [List.mapM_cons, Sem.run_bind, Sem.run_pure, Result.andThen_ok, x1]
        · cases i with
          | zero => simp at hv; subst hv; exact ⟨_, rfl, T.eval (.tmp t)⟩
          | succ i => simpa using x2.at (by simpa using hv)
      · cases h
    | cell q t => simp [resE] at h
theorem fn_one {D : Specs R} (hD : Way D) (n : Nat) (L : List (Nat × List Nat)) (fn : Func) : OneWay (evFn P D n L fn) := by
  refine .of fun hp b args => ?_
  unfold evFn
  split
  · simp only [hd_eq]
    refine (ev_one hD n L _ _ hp b).comp (G := fun p K => match p.1 with
      | .exit _ => Option.none
      | _ => match resE fn.results.toList p.2.1 with
        | some vs => K (one vs, p.2.2.1, p.2.2.2)
        | none => Option.none) fun p hkp => ?_
    obtain ⟨e, ts, h, b⟩ := p
    have hm : One (K3 hp) fun K : (AV × Heap × Nat) → Option R => match resE fn.results.toList ts with
        | some vs => K (one vs, h, b)
        | none => Option.none := by
      split
      · exact .pure hkp
      · exact .none
    cases e with
    | normal => exact hm
    | exit i => exact .none
    | ret => exact hm
  · exact .none
/-- What a call comes to, at the store's end of it. -/
def Came (U : Nat → Prop) (base : Nat) (m : Nam) (h : Heap) (w : World) (K : Kont R) (r : R) (e : Ending) (w' : World) : Prop :=
  ∃ v x h' b' m', e = .returned x ∧ K v h' b' = some r ∧ base ≤ b' ∧ Tr m (get h) w m' (get h') w' ∧ HR m' (above U base b') (get h') w' ∧ VR m' v x
theorem args_tr {m : Nam} {args : List AV} {xs : Array Value} (hc : CR m args xs.toList) (n : Nat) (ds : List Deferred) : TR m (args ++ fills (n - args.length)) { tmps := xs ++ Array.replicate (n - xs.size) undef, defers := ds } := by
  have hal : args.length = xs.size := by simpa using hc.1
  refine ⟨by simp [fills_len, hal], fun i h1 h2 => ?_⟩
  by_cases hi : i < args.length
  · rw [List.getElem_append_left hi, Array.getElem_append_left (hal ▸ hi)]
    have := hc.2 i hi (by simpa [← hal] using hi)
    simpa using this
  · rw [List.getElem_append_right (by omega), Array.getElem_append_right (by omega), fills_get]
    simp only [Array.getElem_replicate]
    exact undef_vr m
/-- The results, one or many. -/
theorem res_one {m : Nam} {vs : List AV} {ys : List Value} (y2 : CR m vs ys) : VR m (one vs) (if hh : ys.toArray.size = 1 then ys.toArray[0] else .tuple ys.toArray) := by
  split
  · rename_i hh
    have hl : vs.length = 1 := by rw [y2.1]; simpa using hh
    match vs, hl, y2 with
    | [v], _, y2 =>
      have := y2.2 0 (by simp) (by simp at hh; omega)
      simpa [one] using this
  · rename_i hh
    have hl : vs.length ≠ 1 := by rw [y2.1]; simpa using hh
    have : one vs = .tuple vs := by
      unfold one
      split
      · simp at hl
      · rfl
    rw [this]
    exact .tuple vs ys y2.1 y2.2
theorem fn_wp {D : Specs R} (hD : Sound P D) (n : Nat) (L : List (Nat × List Nat)) {fn : Func} {c : Code} (hbody : fn.body = some c) {m : Nam} {U : Nat → Prop} {h : Heap} {base : Nat} {w : World} {args : List AV} {xs : Array Value} {K : Kont R} {r : R} (hU : ∀ f, base ≤ f → U f) (H : HR m U (get h) w) (hc : CR m args xs.toList) (hk : evFn P D n L fn h base args K = some r) :
    c.wp P (bodyPost P fn (Came U base m h w K r)) { tmps := xs ++ Array.replicate (fn.ntmps - xs.size) undef, defers := [] } w := by
  unfold evFn at hk
  rw [hbody] at hk
  simp only [hd_eq] at hk
  refine ev_wp hU hD n L c (args ++ fills (fn.ntmps - args.length)) h base _ m w _ _ (Nat.le_refl base) (H.anti fun f hf => hf.1) (args_tr hc fn.ntmps []) rfl hk ?_
  intro e ts' h' b' a' m' w' q1 q0 q2 q3 q4 q5
  have main : (match resE fn.results.toList ts' with | some vs => K (one vs) h' b' | none => none) = some r → a'.defers = [] ∧ ∃ v, (results fn a'.tmps).run P w' = .ok v w' ∧ Came U base m h w K r (.returned v) w' := by
    intro q1
    split at q1
    · rename_i vs hvs
      obtain ⟨ys, y1, y2⟩ := res_real (P := P) q4 w' fn.results.toList vs hvs
      have hmap : (fn.results.mapM (m := Sem) fun | .tmp t => pure (a'.tmps.getD t undef) | .cell q t => do loadVar t (← asAddr (a'.tmps.getD q undef))).run P w' = .ok ys.toArray w' := by
        rw [Array.mapM_eq_mapM_toList, Sem.run_map, y1]
        rfl
      refine ⟨q5, (if hh : ys.toArray.size = 1 then ys.toArray[0] else .tuple ys.toArray), ?_, one vs, _, h', b', m', rfl, q1, q0, q2, q3, res_one y2⟩
      simp only [results, Sem.run_bind]
      exact (congrArg (fun z => Result.andThen z _) hmap).trans rfl
    · cases q1
  cases e with
  | exit i => cases q1
  | normal => exact main q1
  | ret => exact main q1
theorem fn_sound {D : Specs R} (hD : Sound P D) (n : Nat) (L : List (Nat × List Nat)) {f : FuncId} {fn : Func} (hf : P.funcs[f]? = some fn) (hb : fn.body.isNone = false) (hn : (fn.name == "runtime.NumGoroutine") = false) : SoundSpec P f (evFn P D n L fn) := by
  refine ⟨⟨fn, hf, hb, hn⟩, fn_one hD.way n L fn, fun m U h base w args xs K r hU H hc hk => ?_⟩
  cases hbody : fn.body with
  | none => rw [hbody] at hb; cases hb
  | some c => exact calls_of_wp hf hbody (fn_wp hD n L hbody hU H hc hk)
end
end Go.Proofs.YtipigcgegmedeaaGreat.Ev
