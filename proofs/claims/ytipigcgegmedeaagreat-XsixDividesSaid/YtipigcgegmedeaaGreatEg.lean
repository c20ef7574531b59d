/- The evaluator's operations, third part: slices. -/
import Derived.Test.YtipigcgegmedeaaGreatEf
namespace Go.Proofs.YtipigcgegmedeaaGreat.Ev
open Go
set_option linter.unusedVariables false
set_option linter.unusedSimpArgs false
noncomputable section
variable {R : Type} {P : Program} {K : KD R} {r : R} {m : Nam} {U : Nat → Prop} {base : Nat} {h : Gt} {w : World} {o : Oper} {a : Act} {ts : List AV}

/-- A bound of a slice's: 0 .. y; d where none is told. -/
def boundE (v : Option AV) (y d : Nat) (K : Nat → Option R) : Option R :=
  match v with
  | none => K d
  | some (.int _ i) => bif decide (0 ≤ i) && decide (i ≤ (y : Int)) then K i.toNat else none
  | _ => none
def boundsE (len cap : Nat) (lo hi mx : Option AV) (K : Nat → Nat → Nat → Option R) : Option R :=
  boundE mx cap cap fun m => boundE hi m len fun h => bif mx.isNone || hi.isSome then boundE lo h 0 fun l => K l h m else none
theorem bound_real {v : Option AV} {x : Option Value} (hv : ∀ v', v = some v' → ∃ x', x = some x' ∧ VR m v' x') (hn : v = none → x = none) {y d : Nat} {K : Nat → Option R} (hk : boundE v y d K = some r) :
    (v = none ∧ x = none ∧ K d = some r) ∨ ∃ k i, v = some (.int k i) ∧ x = some (.int k i) ∧ 0 ≤ i ∧ i ≤ (y : Int) ∧ K i.toNat = some r := by
  unfold boundE at hk
  split at hk
  · exact .inl ⟨rfl, hn rfl, hk⟩
  · rename_i k i
    obtain ⟨x', e, hx⟩ := hv _ rfl
    cases hc : (decide (0 ≤ i) && decide (i ≤ (y : Int))) with
    | false => rw [hc] at hk; cases hk
    | true =>
      rw [hc] at hk
      simp only [Bool.and_eq_true, decide_eq_true_eq] at hc
      exact .inr ⟨k, i, rfl, by rw [e, int_real hx], hc.1, hc.2, hk⟩
  · cases hk
theorem bound_run (k : IntKind) (i : Int) (y : Nat) (code : BoundsCode) (h0 : 0 ≤ i) (h1 : i ≤ (y : Int)) (w : World) : (Instr.sliceBound (.int k i) y code).run P w = .ok i.toNat w := by
  simp [Instr.sliceBound, asIntOf, h0, h1]
/-- The bounds: those of the model, where its capacity is c' for c, and a greater one for a third bound that is not told. -/
theorem bounds_real {lo hi mx : Option AV} {xlo xhi xmx : Option Value} (h1 : ∀ v', lo = some v' → ∃ x', xlo = some x' ∧ VR m v' x') (n1 : lo = none → xlo = none)
    (h2 : ∀ v', hi = some v' → ∃ x', xhi = some x' ∧ VR m v' x') (n2 : hi = none → xhi = none) (h3 : ∀ v', mx = some v' → ∃ x', xmx = some x' ∧ VR m v' x') (n3 : mx = none → xmx = none)
    {len cap cap' : Nat} (hcap : cap ≤ cap') {K : Nat → Nat → Nat → Option R} (hk : boundsE len cap lo hi mx K = some r) (b : Bool) :
    ∃ l h' m' m'', K l h' m' = some r ∧ (Instr.sliceBounds b len cap' xlo xhi xmx).run P w = .ok (l, h', m'') w ∧ m' ≤ m'' ∧ (mx.isSome = true → m'' = m') ∧ (mx = none → m' = cap ∧ m'' = cap') ∧ l ≤ h' ∧ (lo = none → l = 0) ∧ (len ≤ cap → h' ≤ m') ∧ m' ≤ cap ∧ m'' ≤ cap' := by
  unfold boundsE at hk
  rcases bound_real h3 n3 hk with ⟨e3, x3, hk⟩ | ⟨k3, i3, e3, x3, c3, d3, hk⟩
  · rcases bound_real h2 n2 hk with ⟨e2, x2, hk⟩ | ⟨k2, i2, e2, x2, c2, d2, hk⟩
    · rw [e3] at hk
      simp only [Option.isNone_none, Bool.true_or, cond_true] at hk
      rcases bound_real h1 n1 hk with ⟨e1, x1, hk⟩ | ⟨k1, i1, e1, x1, c1, d1, hk⟩
      · refine ⟨0, len, cap, cap', hk, by simp [Instr.sliceBounds, x1, x2, x3], hcap, by simp [e3], fun _ => ⟨rfl, rfl⟩, Nat.zero_le _, fun _ => rfl, fun _ => by omega, by omega, by omega⟩
      · refine ⟨i1.toNat, len, cap, cap', hk, by simp [Instr.sliceBounds, x1, x2, x3, bound_run _ _ _ _ c1 d1], hcap, by simp [e3], fun _ => ⟨rfl, rfl⟩, by omega, (fun e => by rw [e1] at e; cases e), fun _ => by omega, by omega, by omega⟩
    · rw [e3] at hk
      simp only [Option.isNone_none, Bool.true_or, cond_true] at hk
      have d2' : i2 ≤ (cap' : Int) := by omega
      rcases bound_real h1 n1 hk with ⟨e1, x1, hk⟩ | ⟨k1, i1, e1, x1, c1, d1, hk⟩
      · refine ⟨0, i2.toNat, cap, cap', hk, by simp [Instr.sliceBounds, x1, x2, x3, bound_run _ _ _ _ c2 d2'], hcap, by simp [e3], fun _ => ⟨rfl, rfl⟩, Nat.zero_le _, fun _ => rfl, fun _ => by omega, by omega, by omega⟩
      · refine ⟨i1.toNat, i2.toNat, cap, cap', hk, by simp [Instr.sliceBounds, x1, x2, x3, bound_run _ _ _ _ c2 d2', bound_run _ _ _ _ c1 d1], hcap, by simp [e3], fun _ => ⟨rfl, rfl⟩, by omega, (fun e => by rw [e1] at e; cases e), fun _ => by omega, by omega, by omega⟩
  · have d3' : i3 ≤ (cap' : Int) := by omega
    rcases bound_real h2 n2 hk with ⟨e2, x2, hk⟩ | ⟨k2, i2, e2, x2, c2, d2, hk⟩
    · rw [e3, e2] at hk
      simp at hk
    · rw [e3, e2] at hk
      simp only [Option.isNone_some, Option.isSome_some, Bool.or_true, cond_true] at hk
      rcases bound_real h1 n1 hk with ⟨e1, x1, hk⟩ | ⟨k1, i1, e1, x1, c1, d1, hk⟩
      · refine ⟨0, i2.toNat, i3.toNat, i3.toNat, hk, by simp [Instr.sliceBounds, x1, x2, x3, bound_run _ _ _ _ c3 d3', bound_run _ _ _ _ c2 d2], Nat.le_refl _, fun _ => rfl, (fun e => by rw [e3] at e; cases e), Nat.zero_le _, fun _ => rfl, fun _ => by omega, by omega, by omega⟩
      · refine ⟨i1.toNat, i2.toNat, i3.toNat, i3.toNat, hk, by simp [Instr.sliceBounds, x1, x2, x3, bound_run _ _ _ _ c3 d3', bound_run _ _ _ _ c2 d2, bound_run _ _ _ _ c1 d1], Nat.le_refl _, fun _ => rfl, (fun e => by rw [e3] at e; cases e), by omega, (fun e => by rw [e1] at e; cases e), fun _ => by omega, by omega, by omega⟩

/-- The capacity behind a slice's first l parts. -/
def capR (cap : Option Nat) (mx : Option AV) (m l : Nat) : Option Nat :=
  match mx with
  | some _ => some (m - l)
  | none => match cap with
    | some _ => some (m - l)
    | none => none
theorem capR_le {cap : Option Nat} {mx : Option AV} {l hh m m'' : Nat} (h1 : hh ≤ m) (h2 : m ≤ m'') : hh - l ≤ (capR cap mx m l).getD (hh - l) ∧ (capR cap mx m l).getD (hh - l) ≤ m'' - l := by
  unfold capR
  cases mx <;> cases cap <;> simp <;> omega
def sliceE (P : Program) (g : Gt) (t : TypeId) (v : AV) (lo hi mx : Option AV) (K : AV → Option R) : Option R :=
  match P.underlying t, v with
  | some (.slice e), .slice p es len cap => match P.info? e with
    | some ie => bif Nat.beq es ie.size then boundsE len (cap.getD len) lo hi mx fun l hh m =>
        match lo with
        | none => K (.slice p es hh (capR cap mx m 0))
        | some _ => bif Nat.beq m l then (match mx with
            | some _ => K (.slice p es (hh - l) (some (m - l)))
            | none => bif Nat.beq hh l then K .eslice else none)
          else stepE g p l ie.size fun q => K (.slice q es (hh - l) (capR cap mx m l))
      else none
    | none => none
  | some (.slice e), .nils => match P.info? e with
    | some ie => boundsE 0 0 lo hi mx fun l hh m => K .nils
    | none => none
  | some (.array n e), .ptr (some p) => match P.info? e with
    | some ie => match g p.nm with
      | some B => bif Nat.blt p.row B.rows && Nat.ble (p.col + n * ie.size) B.cols.length then boundsE n n lo hi mx fun l hh m =>
          match lo with
          | none => K (.slice p ie.size hh (some m))
          | some _ => bif Nat.beq m l then K (.slice p ie.size (hh - l) (some (m - l))) else stepE g p l ie.size fun q => K (.slice q ie.size (hh - l) (some (m - l)))
        else none
      | none => none
    | none => none
  | _, _ => none

theorem slice_vr {m : Nam} {p : Adr} {L : Loc} (h : m p.nm = some L) {n es l c' : Nat} {c : Option Nat} (hn : n = L.o + p.row * L.s + p.col) (hl : l ≤ c.getD l) (hc : c.getD l ≤ c') (hr : n + c' * es ≤ L.n) : VR m (.slice p es l c) (.slice (some ⟨L.b, n, none⟩) l c') := by
  subst hn
  exact VR.slice p L es l c c' h hl hc hr
theorem room_le {x l m c es n : Nat} (h : x + c * es ≤ n) (hm : m ≤ c) (hl : l ≤ m) : x + l * es + (m - l) * es ≤ n := by
  have h1 : (m - l) * es + l * es = m * es := by rw [← Nat.add_mul]; congr 1; omega
  have h2 := Nat.mul_le_mul_right es hm
  omega
theorem opt_real (T : TR m ts a) (x : Option Operand) : (∀ v', x.map (evA ts) = some v' → ∃ x', x.map a.eval = some x' ∧ VR m v' x') ∧ (x.map (evA ts) = none → x.map a.eval = none) := by
  cases x with
  | none => exact ⟨fun v' h => by simp at h, fun _ => rfl⟩
  | some x => exact ⟨fun v' h => ⟨_, rfl, by simp at h; subst h; exact T.eval x⟩, fun h => by simp at h⟩
theorem slice_ok (H : HR m U h w) (T : TR m ts a) {t : TypeId} {x : Operand} {lo hi mx : Option Operand} (ho : o.op = .slice t x lo hi mx)
    (hk : sliceE P h t (evA ts x) (lo.map (evA ts)) (hi.map (evA ts)) (mx.map (evA ts)) (fun v => K v .same) = some r) : Out P K r m U base h w o a := by
  have hx := T.eval x
  unfold sliceE at hk
  split at hk
  · rename_i e p es len cap hu hp
    rw [hp] at hx
    obtain ⟨L, c', hL, hll, hcc, hnn, ex⟩ := slice_real hx
    split at hk
    · rename_i ie hie
      rw [beq_cond] at hk
      split at hk
      case isFalse => cases hk
      rename_i hes
      subst hes
      obtain ⟨l, hh, m', m'', hk, hrun, hm, hm1, hm2, hlh, hl0, hhm, hmc, hmd⟩ := bounds_real (w := w) (P := P) (opt_real T lo).1 (opt_real T lo).2 (opt_real T hi).1 (opt_real T hi).2 (opt_real T mx).1 (opt_real T mx).2 hcc hk true
      have hhm := hhm hll
      have hrun' : ∀ q : Option Addr, q = (if m'' = l then some (⟨L.b, L.o + p.row * L.s + p.col, none⟩ : Addr) else some ⟨L.b, L.o + p.row * L.s + p.col + l * ie.size, none⟩) →
          (execOp a.eval o).run P w = .ok (.value (.slice q (hh - l) (m'' - l))) w := by
        intro q hq
        subst hq
        simp only [execOp, ho, Instr.sliceAt, Sem.run_bind, run_underlying hu, Result.andThen_ok, Instr.slice, ex, hrun, sizeOf_run hie, Sem.run_pure, Option.map_some, addr_add]
      cases hlo : lo.map (evA ts) with
      | none =>
        rw [hlo] at hk
        have hl : l = 0 := hl0 hlo
        subst hl
        have hcl := capR_le (cap := cap) (mx := mx.map (evA ts)) (l := 0) hhm hm
        refine Out.same H hk (slice_vr (p := p) hL rfl hcl.1 hcl.2 (by simpa using room_le hnn hmd (Nat.zero_le _))) ?_
        rw [hrun' _ rfl]
        simp
      | some vlo =>
        rw [hlo] at hk
        simp only [beq_cond] at hk
        split at hk
        · rename_i hml
          cases hmx : mx.map (evA ts) with
          | some vmx =>
            rw [hmx] at hk
            have h2 : m'' = m' := hm1 (by rw [hmx]; rfl)
            refine Out.same H hk (slice_vr (p := p) hL rfl (by simp; omega) (Nat.le_refl _) (by simp [show m' - l = 0 by omega]; omega)) ?_
            rw [hrun' _ rfl, h2, if_pos hml]
            rfl
          | none =>
            rw [hmx] at hk
            simp only [beq_cond] at hk
            split at hk
            · rename_i hhl
              have e0 := hrun' _ rfl
              rw [show hh - l = 0 by omega] at e0
              exact Out.same H hk (.eslice _ _) e0
            · cases hk
        · rename_i hml
          obtain ⟨q, k1, k2, k3⟩ := step_vr H hL hk
          have hne : ¬ m'' = l := by omega
          have hcl := capR_le (cap := cap) (mx := mx.map (evA ts)) (l := l) hhm hm
          refine Out.same H k1 (slice_vr (p := q) (k2 ▸ hL) (n := L.o + p.row * L.s + p.col + l * ie.size) k3.symm hcl.1 hcl.2 (room_le hnn hmd (by omega))) ?_
          rw [hrun' _ rfl, if_neg hne]
    · cases hk
  · rename_i e hu hp
    rw [hp] at hx
    split at hk
    · rename_i ie hie
      obtain ⟨l, hh, m', m'', hk, hrun, hm, hm1, hm2, hlh, hl0, hhm, hmc, hmd⟩ := bounds_real (w := w) (P := P) (opt_real T lo).1 (opt_real T lo).2 (opt_real T hi).1 (opt_real T hi).2 (opt_real T mx).1 (opt_real T mx).2 (Nat.le_refl 0) hk true
      have hhm := hhm (Nat.le_refl _)
      cases hxx : a.eval x with
      | slice q l' c'' =>
        rw [hxx] at hx
        cases hx
        refine Out.same H hk .nils ?_
        have h0 : m'' = 0 := by
          rcases Option.eq_none_or_eq_some (mx.map (evA ts)) with hmx | ⟨v, hmx⟩
          · exact (hm2 hmx).2
          · have := hm1 (by rw [hmx]; rfl)
            omega
        have h1 : hh - l = 0 := by omega
        simp only [execOp, ho, Instr.sliceAt, Sem.run_bind, run_underlying hu, Result.andThen_ok, Instr.slice, hxx, hrun, sizeOf_run hie, Sem.run_pure, Option.map_none, h0, h1, ite_self, Nat.zero_sub]
      | _ => rw [hxx] at hx; cases hx
    · cases hk
  · rename_i n e p hu hp
    rw [hp] at hx
    obtain ⟨L, hL, ex⟩ := ptr_real hx
    split at hk
    · rename_i ie hie
      split at hk
      case h_2 => cases hk
      rename_i B hB
      obtain ⟨L0, cs, e0, fz, g1, g2, g3, g7, g4, g5, g6⟩ := H.live _ _ hB
      rw [hL] at g1; cases g1
      cases hc : (Nat.blt p.row B.rows && Nat.ble (p.col + n * ie.size) B.cols.length) with
      | false => rw [hc] at hk; cases hk
      | true =>
      rw [hc] at hk
      simp only [cond_true] at hk
      simp only [Bool.and_eq_true] at hc
      have hc1 : p.row < B.rows := by simpa using hc.1
      have hc2 : p.col + n * ie.size ≤ B.cols.length := by simpa using hc.2
      have hnn : L.o + p.row * L.s + p.col + n * ie.size ≤ L.n := by
        have := Nat.mul_le_mul_right L.s (Nat.succ_le_of_lt hc1)
        rw [Nat.succ_mul] at this
        omega
      obtain ⟨l, hh, m', m'', hk, hrun, hm, hm1, hm2, hlh, hl0, hhm, hmc, hmd⟩ := bounds_real (w := w) (P := P) (opt_real T lo).1 (opt_real T lo).2 (opt_real T hi).1 (opt_real T hi).2 (opt_real T mx).1 (opt_real T mx).2 (Nat.le_refl n) hk false
      have hhm := hhm (Nat.le_refl _)
      have h2 : m'' = m' := by
        rcases Option.eq_none_or_eq_some (mx.map (evA ts)) with hmx | ⟨v, hmx⟩
        · obtain ⟨q1, q2⟩ := hm2 hmx; rw [q1, q2]
        · exact hm1 (by rw [hmx]; rfl)
      subst h2
      have hrun' : ∀ q : Addr, q = (if m'' = l then (⟨L.b, L.o + p.row * L.s + p.col, none⟩ : Addr) else ⟨L.b, L.o + p.row * L.s + p.col + l * ie.size, none⟩) →
          (execOp a.eval o).run P w = .ok (.value (.slice (some q) (hh - l) (m'' - l))) w := by
        intro q hq
        subst hq
        simp only [execOp, ho, Instr.sliceAt, Sem.run_bind, run_underlying hu, Result.andThen_ok, Instr.sureAddr, ex, hrun, sizeOf_run hie, Sem.run_pure, addr_add]
      cases hlo : lo.map (evA ts) with
      | none =>
        rw [hlo] at hk
        have hl : l = 0 := hl0 hlo
        subst hl
        refine Out.same H hk (slice_vr (p := p) hL rfl (by simpa using hhm) (Nat.le_refl _) (by simpa using room_le hnn hmd (Nat.zero_le _))) ?_
        rw [hrun' _ rfl]
        simp
      | some vlo =>
        rw [hlo] at hk
        simp only [beq_cond] at hk
        split at hk
        · rename_i hml
          refine Out.same H hk (slice_vr (p := p) hL rfl (by simp; omega) (Nat.le_refl _) (by simp [show m'' - l = 0 by omega]; omega)) ?_
          rw [hrun' _ rfl, if_pos hml]
          rfl
        · rename_i hml
          obtain ⟨q, k1, k2, k3⟩ := step_vr H hL hk
          refine Out.same H k1 (slice_vr (p := q) (k2 ▸ hL) (n := L.o + p.row * L.s + p.col + l * ie.size) k3.symm (by simp; omega) (Nat.le_refl _) (by simpa using room_le hnn hmd (by omega))) ?_
          rw [hrun' _ rfl, if_neg hml]
          rfl
    · cases hk
  · cases hk
end
end Go.Proofs.YtipigcgegmedeaaGreat.Ev
