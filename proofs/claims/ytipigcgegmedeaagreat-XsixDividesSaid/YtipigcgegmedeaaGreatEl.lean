/- The evaluator's operations, sixth part: built structs, made slices, lengths, comparisons with nil. -/
import Derived.Test.YtipigcgegmedeaaGreatEk
namespace Go.Proofs.YtipigcgegmedeaaGreat.Ev
open Go
set_option linter.unusedVariables false
set_option linter.unusedSimpArgs false
noncomputable section
variable {R : Type} {P : Program} {K : KD R} {r : R} {m : Nam} {U : Nat → Prop} {base : Nat} {h : Gt} {w : World} {o : Oper} {a : Act} {ts : List AV}

def placeE (P : Program) (fs : Array Field) (i : Nat) : Option (Nat × Nat) :=
  match fs[i]? with
  | some f => match P.info? f.type with
    | some ie => some (f.offset, ie.size)
    | none => none
  | none => none
def buildE (P : Program) (t : TypeId) (ps : List (Nat × AV)) (K : AV → Option R) : Option R :=
  bif ps.all (fun p => p.2.known) then
    match P.underlying t with
    | some (.struct fs) => bif fs.toList.all (fun f => (P.info? f.type).isSome) then
        zeroL P t fun z => match fillE (placeE P fs) z ps with
          | some cs => K (.agg cs)
          | none => none
      else none
    | some (.array _ e) => match P.info? e with
      | some ie => zeroL P t fun z => match fillE (fun i => some (i * ie.size, ie.size)) z ps with
        | some cs => K (.agg cs)
        | none => none
      | none => none
    | _ => none
  else none
theorem places_run (P : Program) (w : World) : ∀ fs : List Field, (fs.all fun f => (P.info? f.type).isSome) = true →
    (fs.mapM (m := Sem) fun f => do pure (f.offset, ← Go.sizeOf f.type)).run P w = .ok (fs.map fun f => (f.offset, ((P.info? f.type).map (·.size)).getD 0)) w := by
  intro fs
  induction fs with
  | nil => intro _; simp
  | cons f fs ih =>
    intro hf
    simp only [List.all_cons, Bool.and_eq_true] at hf
    obtain ⟨i, hi⟩ := Option.isSome_iff_exists.1 hf.1
    simp only [List.mapM_cons, Sem.run_bind, sizeOf_run hi, Result.andThen_ok, Sem.run_pure, ih hf.2, List.map_cons, hi, Option.map_some, Option.getD_some]
theorem build_ok (H : HR m U h w) (T : TR m ts a) {t : TypeId} {ps : Array (Nat × Operand)} (ho : o.op = .build t ps) (hk : buildE P t (partsE ts ps) (fun v => K v .same) = some r) : Out P K r m U base h w o a := by
  unfold buildE at hk
  cases hc : (partsE ts ps).all (fun p => p.2.known) with
  | false => rw [hc] at hk; cases hk
  | true =>
  rw [hc] at hk
  simp only [cond_true] at hk
  split at hk
  case h_3 => cases hk
  · rename_i fs hu
    cases hf : fs.toList.all (fun f => (P.info? f.type).isSome) with
    | false => rw [hf] at hk; cases hk
    | true =>
    rw [hf] at hk
    simp only [cond_true] at hk
    obtain ⟨z, i, zv, hk, k2, k3, k4, k5⟩ := zero_real hk
    split at hk
    case h_2 => cases hk
    rename_i cs hfl
    have hpl : ∀ i, (fs.toList.map fun f => (f.offset, ((P.info? f.type).map (·.size)).getD 0))[i]? = placeE P fs i := by
      intro i
      simp only [List.getElem?_map, Array.getElem?_toList, placeE]
      cases hq : fs[i]? with
      | none => rfl
      | some f =>
        have := List.all_eq_true.1 hf f (by simpa using Array.mem_of_getElem? hq)
        obtain ⟨ie, hie⟩ := Option.isSome_iff_exists.1 this
        simp [hie]
    obtain ⟨xs, f1, f2⟩ := fill_real (place' := fun i => (fs.toList.map fun f => (f.offset, ((P.info? f.type).map (·.size)).getD 0))[i]?) hpl _ _ _ _ _ hc (parts_real T ps) (k5 m) hfl
    refine Out.same H hk (y := .agg xs) (.agg cs xs.toList f2.1 f2.2) ?_
    have hpr := places_run P w fs.toList hf
    have hm : (fs.mapM (m := Sem) fun f => do pure (f.offset, ← Go.sizeOf f.type)).run P w = .ok (fs.toList.map fun f => (f.offset, ((P.info? f.type).map (·.size)).getD 0)).toArray w := by
      rw [Array.mapM_eq_mapM_toList, Sem.run_map, hpr]
      rfl
    simp only [execOp, ho, Instr.build, Sem.run_bind, zeroV_run k2 k3, Result.andThen_ok, run_underlying hu, Sem.run_pure]
    rw [hm]
    simp only [Result.andThen_ok, List.getElem?_toArray, f1, Sem.run_pure]
  · rename_i n e hu
    split at hk
    case h_2 => cases hk
    rename_i ie hi
    obtain ⟨z, i, zv, hk, k2, k3, k4, k5⟩ := zero_real hk
    split at hk
    case h_2 => cases hk
    rename_i cs hfl
    obtain ⟨xs, f1, f2⟩ := fill_real (place' := fun i => some (i * ie.size, ie.size)) (fun _ => rfl) _ _ _ _ _ hc (parts_real T ps) (k5 m) hfl
    refine Out.same H hk (y := .agg xs) (.agg cs xs.toList f2.1 f2.2) ?_
    simp only [execOp, ho, Instr.build, Sem.run_bind, zeroV_run k2 k3, Result.andThen_ok, run_underlying hu, Sem.run_pure, sizeOf_run hi, f1]

theorem wrap64_small {n : Int} (h0 : 0 ≤ n) (h1 : n ≤ 2 ^ 47) : IntKind.i64.wrap n = n := by
  have e : n % (2 ^ 64 : Int) = n := Int.emod_eq_of_lt h0 (by omega)
  simp only [IntKind.wrap, IntKind.bits, IntKind.signed, e]
  rw [if_neg]
  simp
  omega
def makeSliceD (P : Program) (base : Nat) (t : TypeId) (l c : AV) (K : KD R) : Option R :=
  match P.underlying t, l, c with
  | some (.slice e), .int _ n, .int _ k => match P.info? e with
    | some ie => bif decide (0 ≤ n) && decide (n ≤ k) && decide (k ≤ 2 ^ 47) && decide (ie.bytes * k ≤ 2 ^ 48) then
        zeroL P e fun z => bif Nat.beq z.length ie.size && Nat.ble 1 ie.size && z.all AV.lone then
            K (.slice ⟨⟨base, 0⟩, 0, 0⟩ ie.size n.toNat (some k.toNat)) (.new ⟨k.toNat, z.map Col.const, 0⟩)
          else none
      else none
    | none => none
  | _, _, _ => none
theorem makeSlice_ok (H : HR m U h w) (hU : U base) (T : TR m ts a) {t : TypeId} {l c : Operand} (ho : o.op = .makeSlice t l c) (hk : makeSliceD P base t (evA ts l) (evA ts c) K = some r) : Out P K r m U base h w o a := by
  have hl := T.eval l
  have hc := T.eval c
  unfold makeSliceD at hk
  split at hk
  case h_2 => cases hk
  rename_i e k1 n k2 k hu hle hce
  rw [hle] at hl; rw [hce] at hc
  have el := int_real hl
  have ec := int_real hc
  split at hk
  case h_2 => cases hk
  rename_i ie hi
  cases hd : (decide (0 ≤ n) && decide (n ≤ k) && decide (k ≤ 2 ^ 47) && decide (ie.bytes * k ≤ 2 ^ 48)) with
  | false => rw [hd] at hk; cases hk
  | true =>
  rw [hd] at hk
  simp only [cond_true] at hk
  simp only [Bool.and_eq_true, decide_eq_true_eq] at hd
  obtain ⟨⟨⟨d1, d2⟩, d3⟩, d4⟩ := hd
  obtain ⟨z, i', zv, hk, k2, k3, k4, k5⟩ := zero_real hk
  rw [hi] at k2
  cases k2
  cases hz : (Nat.beq z.length ie.size && Nat.ble 1 ie.size && z.all AV.lone) with
  | false => rw [hz] at hk; cases hk
  | true =>
  rw [hz] at hk
  simp only [cond_true] at hk
  simp only [Bool.and_eq_true] at hz
  obtain ⟨⟨z1, z2⟩, z3⟩ := hz
  have z1 := Nat.eq_of_beq_eq_true z1
  have z2 : 1 ≤ ie.size := by simpa using z2
  have hzc : zv.cells.size = ie.size := by
    have := (k5 m).1
    rw [z1] at this
    simpa using this.symm
  have hz := zeros_real (k5 m) (by omega) k.toNat
  rw [z1] at hz
  have hlen : (z.map Col.const).length = ie.size := by simp [z1]
  obtain ⟨q1, q2⟩ := H.push hU ⟨k.toNat, z.map Col.const, 0⟩ ((Array.range (k.toNat * ie.size)).map (zv.cells[· % zv.cells.size]!)) e (0, 0) (fun i _ => by simp) (by simp [z1]) (by
    intro r' c' col hr' hcol
    simp only [hlen]
    obtain ⟨v, hv, rfl⟩ := map_const_get z c' col hcol
    have hclt : c' < ie.size := by rw [← z1]; exact (List.getElem?_eq_some_iff.1 hv).1
    have hj : r' * ie.size + c' < k.toNat * z.length := by rw [z1]; exact mul_row hr' hclt
    have hg := repl_get z (by omega) k.toNat (r' * ie.size + c') hj
    have hmod : (r' * ie.size + c') % ie.size = c' := by rw [Nat.mul_comm, Nat.mul_add_mod, Nat.mod_eq_of_lt hclt]
    rw [z1, hmod, hv] at hg
    obtain ⟨x, x1, x2⟩ := hz.at hg
    rw [Array.getElem?_toList] at x1
    refine ⟨x, x1, by rw [const_at]; exact x2, lone_one x2 ?_⟩
    have hv' := List.mem_of_getElem? hv
    exact List.all_eq_true.1 z3 v hv')
  refine ⟨_, _, .slice (some ⟨w.heap.size, 0, none⟩) n.toNat k.toNat, _, _, hk, (fun _ _ e => by cases e), q2, q1.anti fun f g => ⟨g.1, g.2 rfl⟩, ?_, .inl ?_⟩
  · refine slice_vr (p := ⟨⟨base, 0⟩, 0, 0⟩) (L := ⟨w.heap.size, 0, (z.map Col.const).length, ((Array.range (k.toNat * ie.size)).map (zv.cells[· % zv.cells.size]!)).size⟩) (by simp [Nam.put]) (by simp) (by simp; omega) (by simp) (by simp)
  · have w1 := wrap64_small d1 (by omega)
    have w2 := wrap64_small (n := k) (by omega) d3
    have n1 : ¬ (k < 0) := by omega
    have n2 : ¬ ((ie.bytes : Int) * k > 2 ^ 48) := by omega
    have n3 : ¬ (n < 0) := by omega
    have n4 : ¬ (n > k) := by omega
    by_cases h0 : k.toNat * ie.size = 0
    · have hr0 : Array.range 0 = #[] := rfl
      simp only [execOp, ho, el, ec, Instr.makeSlice, Sem.run_bind, run_underlying hu, Result.andThen_ok, asInt, asIntOf, Sem.run_pure, info_run hi, w1, w2, n1, n2, n3, n4, decide_false, Bool.or_false, Bool.false_eq_true, or_self, if_false, run_askRoom, sizeOf_run hi, h0, if_true, newRow, run_newObj, hr0, List.map_toArray, List.map_nil, Sem.run_ite]
      rfl
    · simp only [execOp, ho, el, ec, Instr.makeSlice, Sem.run_bind, run_underlying hu, Result.andThen_ok, asInt, asIntOf, Sem.run_pure, info_run hi, w1, w2, n1, n2, n3, n4, decide_false, Bool.or_false, Bool.false_eq_true, or_self, if_false, run_askRoom, sizeOf_run hi, h0, zeroV_run hi k3, newRow, run_newObj, Sem.run_ite]
      rfl

def lenE (P : Program) (t : TypeId) (v : AV) (K : AV → Option R) : Option R :=
  match P.underlying t, v with
  | some (.slice _), .slice _ _ n _ => K (.int .i64 n)
  | some (.slice _), .eslice => K (.int .i64 0)
  | some (.slice _), .nils => K (.int .i64 0)
  | some .string, .str s => K (.int .i64 s.length)
  | some (.array n _), _ => K (.int .i64 n)
  | _, _ => none
theorem len_ok (H : HR m U h w) (T : TR m ts a) {c : Go.Call} {x : Operand} {t : TypeId} (ho : o.op = .call c) (hb : c.callee = .builtin .len) (ha : c.args.toList = [x]) (h0 : c.argTypes[0]? = some t)
    (hk : lenE P t (evA ts x) (fun v => K v .same) = some r) : Out P K r m U base h w o a := by
  have hargs : c.args.map a.eval = #[a.eval x] := by
    apply Array.ext'
    simp [ha]
  have hx := T.eval x
  obtain ⟨cons, hrun⟩ := builtin_run P o a c .len ho hb w
  rw [hargs] at hrun
  unfold lenE at hk
  split at hk
  · rename_i e p es n cc hu hp
    rw [hp] at hx
    obtain ⟨L, c', hL, hll, hcc, hnn, ex⟩ := slice_real hx
    refine Out.same H hk (.int _ _) ?_
    rw [hrun, ex]
    simp [Go.builtin, Builtin.len_, h0, run_underlying hu, goInt]
  · rename_i e hu hp
    rw [hp] at hx
    refine Out.same H hk (.int _ _) ?_
    rw [hrun]
    generalize a.eval x = y at hx
    cases hx
    simp [Go.builtin, Builtin.len_, h0, run_underlying hu, goInt]
  · rename_i e hu hp
    rw [hp] at hx
    refine Out.same H hk (.int _ _) ?_
    rw [hrun]
    generalize a.eval x = y at hx
    cases hx
    simp [Go.builtin, Builtin.len_, h0, run_underlying hu, goInt]
  · rename_i s hu hp
    rw [hp] at hx
    refine Out.same H hk (.int _ _) ?_
    rw [hrun]
    generalize a.eval x = y at hx
    cases hx
    have hsz : (⟨⟨s⟩⟩ : ByteArray).size = s.length := rfl
    simp [Go.builtin, Builtin.len_, h0, run_underlying hu, goInt, hsz]
  · rename_i n e hu
    refine Out.same H hk (.int _ _) ?_
    rw [hrun]
    simp [Go.builtin, Builtin.len_, h0, run_underlying hu, goInt]
  · cases hk
end
end Go.Proofs.YtipigcgegmedeaaGreat.Ev
