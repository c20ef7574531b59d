/- The evaluator's operations look at nothing but their operands and these operands' blocks. -/
import Derived.Test.YtipigcgegmedeaaGreatEn
namespace Go.Proofs.YtipigcgegmedeaaGreat.Ev
open Go
set_option linter.unusedVariables false
set_option linter.unusedSimpArgs false
noncomputable section
variable {R : Type} {P : Program} {g g' : Gt}

def footA : AV → List Nm
  | .ptr (some p) => [p.nm]
  | .slice p _ _ _ => [p.nm]
  | _ => []
/-- The operations that look at the store. -/
def looks : Op → Bool
  | .load _ _ => true
  | .store _ _ _ => true
  | .indexAddr _ _ _ => true
  | .slice _ _ _ _ _ => true
  | .convert _ _ _ => true
  | .call _ => true
  | _ => false
def foot (ts : List AV) (o : Oper) : List Nm := bif looks o.op then o.op.operands.toList.flatMap fun x => footA (evA ts x) else []

theorem load_congr {t : TypeId} {p : Adr} {K : AV → Option R} (h : g' p.nm = g p.nm) : loadE P g' t p K = loadE P g t p K := by unfold loadE; rw [h]
theorem store_congr {t : TypeId} {p : Adr} {v : AV} {K : Dl → Option R} (h : g' p.nm = g p.nm) : storeE P g' t p v K = storeE P g t p v K := by unfold storeE; rw [h]
theorem step_congr {p : Adr} {i e : Nat} {K : Adr → Option R} (h : g' p.nm = g p.nm) : stepE g' p i e K = stepE g p i e K := by unfold stepE; rw [h]
theorem indexAddr_congr {t : TypeId} {v ix : AV} {K : AV → Option R} (h : ∀ n ∈ footA v, g' n = g n) : indexAddrE P g' t v ix K = indexAddrE P g t v ix K := by
  unfold indexAddrE
  split
  · split
    · rw [step_congr (h _ (by simp [footA]))]
    · rfl
  · split
    · rw [step_congr (h _ (by simp [footA]))]
    · rfl
  · rfl
theorem slice_congr {t : TypeId} {v : AV} {lo hi mx : Option AV} {K : AV → Option R} (h : ∀ n ∈ footA v, g' n = g n) : sliceE P g' t v lo hi mx K = sliceE P g t v lo hi mx K := by
  unfold sliceE
  split
  · rename_i e p es len cap hu
    have hs : ∀ (l e : Nat) (K : Adr → Option R), stepE g' p l e K = stepE g p l e K := fun l e K => step_congr (h _ (by simp [footA]))
    simp only [hs]
  · rfl
  · rename_i n e p hu
    have hs : ∀ (l e : Nat) (K : Adr → Option R), stepE g' p l e K = stepE g p l e K := fun l e K => step_congr (h _ (by simp [footA]))
    have hp : g' p.nm = g p.nm := h _ (by simp [footA])
    simp only [hs, hp]
  · rfl
theorem src_congr {size : Nat} {x : AV} {K : Nat → List Col → Nat → Option R} (h : ∀ n ∈ footA x, g' n = g n) : srcE g' size x K = srcE g size x K := by
  unfold srcE
  split
  · rfl
  · rfl
  · rfl
  · rw [h _ (by simp [footA])]
  · rfl
theorem append_congr {base : Nat} {st xt : TypeId} {s x : AV} {K : KD R} (hs : ∀ n ∈ footA s, g' n = g n) (hx : ∀ n ∈ footA x, g' n = g n) : appendD P g' base st xt s x K = appendD P g base st xt s x K := by
  have hp : ∀ p es len cap, s = .slice p es len cap → g' p.nm = g p.nm := fun p es len cap e => hs _ (by rw [e]; simp [footA])
  unfold appendD
  simp only [src_congr hx]
  cases s with
  | slice p es len cap => simp only [hp p es len cap rfl]
  | _ => rfl
theorem copy_congr {dt : TypeId} {d s : AV} {K : KD R} (hd : ∀ n ∈ footA d, g' n = g n) (hs : ∀ n ∈ footA s, g' n = g n) : copyD P g' dt d s K = copyD P g dt d s K := by
  unfold copyD
  simp only [src_congr hs]
  cases d with
  | slice p es len cap =>
    have hp : g' p.nm = g p.nm := hd _ (by simp [footA])
    have hcc : ∀ ie B (K : KD R), copyCells g' ie p len B s K = copyCells g ie p len B s K := by
      intro ie B K
      unfold copyCells
      split
      · rename_i q qs n qc
        rw [hs _ (by simp [footA])]
      · rfl
    simp only [hp, hcc]
  | _ => rfl
theorem bstr_congr {s d : TypeId} {x : AV} {K : AV → Option R} (h : ∀ n ∈ footA x, g' n = g n) : bstrE P g' s d x K = bstrE P g s d x K := by
  unfold bstrE
  cases x with
  | slice q qs n qc =>
    have hq : g' q.nm = g q.nm := h _ (by simp [footA])
    simp only [hq]
  | _ => rfl
theorem plain_congr {o : Oper} {ts ts' : List AV} {K : AV → Option R} (h : ∀ x ∈ o.op.operands, evA ts' x = evA ts x) : plainE P ts' o K = plainE P ts o K := by
  by_cases hsel : ∃ cs b, o.op = .select cs b
  · obtain ⟨cs, b, e⟩ := hsel
    unfold plainE
    rw [e]
  · have hs : ∀ cs b, o.op ≠ .select cs b := fun cs b e => hsel ⟨cs, b, e⟩
    have h1 : (o.op.operands.toList.all fun x => (toV 3 (evA ts' x)).isSome) = (o.op.operands.toList.all fun x => (toV 3 (evA ts x)).isSome) := by
      rw [Bool.eq_iff_iff, List.all_eq_true, List.all_eq_true]
      constructor
      · intro q x hx; have := q x hx; rwa [h x (by simpa using hx)] at this
      · intro q x hx; have := q x hx; rwa [← h x (by simpa using hx)] at this
    have h2 : execOp (fun x => (toV 3 (evA ts' x)).getD undef) o = execOp (fun x => (toV 3 (evA ts x)).getD undef) o :=
      execOp_congr o hs fun x hx => by simp only [h x hx]
    unfold plainE
    rw [h1, h2]
theorem parts_congr {ts ts' : List AV} {ps : Array (Nat × Operand)} (h : ∀ x ∈ (ps.toList.map (·.2)).toArray, evA ts' x = evA ts x) : partsE ts' ps = partsE ts ps := by
  unfold partsE
  refine List.map_congr_left fun p hp => ?_
  rw [h p.2 (by simp only [List.mem_toArray, List.mem_map]; exact ⟨p, hp, rfl⟩)]
theorem map_congr {ts ts' : List AV} {x : Option Operand} (h : ∀ y, x = some y → evA ts' y = evA ts y) : x.map (evA ts') = x.map (evA ts) := by
  cases x with
  | none => rfl
  | some y => simp only [Option.map_some, h y rfl]
theorem foot_mem {o : Oper} {ts : List AV} (hl : looks o.op = true) {x : Operand} (hx : x ∈ o.op.operands) {n : Nm} (hn : n ∈ footA (evA ts x)) : n ∈ foot ts o := by
  unfold foot
  rw [hl, cond_true, List.mem_flatMap]
  exact ⟨x, by simpa using hx, hn⟩
set_option maxHeartbeats 1000000 in
theorem evV_congr {o : Oper} {ts ts' : List AV} {base : Nat} (h : ∀ x ∈ o.op.operands, evA ts' x = evA ts x) (hg : ∀ n ∈ foot ts o, g' n = g n) : evV P g' base ts' o = evV P g base ts o := by
  have hf : looks o.op = true → ∀ x, x ∈ o.op.operands → ∀ n ∈ footA (evA ts x), g' n = g n := fun hl x hx n hn => hg n (foot_mem hl hx hn)
  have hpl : ∀ K : AV → Option (AV × Dl), plainE P ts' o K = plainE P ts o K := fun K => plain_congr h
  unfold evV evD
  split
  · rename_i x ho; rw [h x (by rw [ho]; simp [Op.operands])]
  · rename_i x ho; rw [h x (by rw [ho]; simp [Op.operands])]
  · rename_i c x y ho
    unfold pickE
    rw [h c (by rw [ho]; simp [Op.operands]), h x (by rw [ho]; simp [Op.operands]), h y (by rw [ho]; simp [Op.operands])]
  · rename_i t x ho
    rw [h x (by rw [ho]; simp [Op.operands])]
    split
    · rename_i p hp; exact load_congr (hf (by rw [ho]; rfl) x (by rw [ho]; simp [Op.operands]) _ (by rw [hp]; simp [footA]))
    · rfl
  · rename_i t x y ho
    rw [h x (by rw [ho]; simp [Op.operands]), h y (by rw [ho]; simp [Op.operands])]
    split
    · rename_i p hp; exact store_congr (hf (by rw [ho]; rfl) x (by rw [ho]; simp [Op.operands]) _ (by rw [hp]; simp [footA]))
    · rfl
  · rfl
  · rename_i t x ho; rw [h x (by rw [ho]; simp [Op.operands])]
  · rename_i t ps ho; rw [parts_congr (by rw [ho] at h; exact h)]
  · rename_i t n ps ho; rw [parts_congr (by rw [ho] at h; exact h)]
  · rename_i x ho; rw [h x (by rw [ho]; simp [Op.operands])]
  · rename_i s x f ho; rw [h x (by rw [ho]; simp [Op.operands])]
  · rename_i t x ix ho
    rw [h x (by rw [ho]; simp [Op.operands]), h ix (by rw [ho]; simp [Op.operands])]
    exact indexAddr_congr (hf (by rw [ho]; rfl) x (by rw [ho]; simp [Op.operands]))
  · rename_i t x lo hi mx ho
    rw [h x (by rw [ho]; simp [Op.operands]), map_congr (x := lo) fun y e => h y (by rw [ho, e]; simp [Op.operands]), map_congr (x := hi) fun y e => h y (by rw [ho, e]; simp [Op.operands]), map_congr (x := mx) fun y e => h y (by rw [ho, e]; simp [Op.operands])]
    split
    · exact hpl _
    · exact slice_congr (hf (by rw [ho]; rfl) x (by rw [ho]; simp [Op.operands]))
  · rename_i t l c ho; rw [h l (by rw [ho]; simp [Op.operands]), h c (by rw [ho]; simp [Op.operands])]
  · rename_i x i ho; rw [h x (by rw [ho]; simp [Op.operands])]
  · rename_i t x f ho; rw [h x (by rw [ho]; simp [Op.operands])]
  · rename_i t x ix ho
    rw [h x (by rw [ho]; simp [Op.operands]), h ix (by rw [ho]; simp [Op.operands])]
    split
    · rfl
    · exact hpl _
  · rename_i t x ho; rw [h x (by rw [ho]; simp [Op.operands])]
  · rename_i op t x y yt ho
    rw [h x (by rw [ho]; simp [Op.operands]), h y (by rw [ho]; simp [Op.operands])]
    split
    · rfl
    · exact hpl _
  · rename_i s d x ho
    have e := h x (by rw [ho]; simp [Op.operands])
    rw [e]
    split
    · exact bstr_congr (hf (by rw [ho]; rfl) x (by rw [ho]; simp [Op.operands]))
    · exact bstr_congr (hf (by rw [ho]; rfl) x (by rw [ho]; simp [Op.operands]))
    · exact hpl _
  · rename_i c ho
    have hc : ∀ x ∈ c.args, x ∈ o.op.operands := fun x hx => by rw [ho]; simp only [Op.operands, Call.operands]; exact Array.mem_append_right _ hx
    unfold builtinE
    split
    · split
      · rename_i x t ha h0
        rw [h x (hc x (by rw [← Array.mem_toList_iff, ha]; simp))]
      · rfl
    · split
      · rename_i s x st xt ha h0 h1
        have es := hc s (by rw [← Array.mem_toList_iff, ha]; simp)
        have ex := hc x (by rw [← Array.mem_toList_iff, ha]; simp)
        rw [h s es, h x ex]
        exact append_congr (hf (by rw [ho]; rfl) s es) (hf (by rw [ho]; rfl) x ex)
      · rfl
    · split
      · rename_i d s dt ha h0
        have ed := hc d (by rw [← Array.mem_toList_iff, ha]; simp)
        have es := hc s (by rw [← Array.mem_toList_iff, ha]; simp)
        rw [h d ed, h s es]
        exact copy_congr (hf (by rw [ho]; rfl) d ed) (hf (by rw [ho]; rfl) s es)
      · rfl
    · exact hpl _
    · rfl
  · exact hpl _
end
end Go.Proofs.YtipigcgegmedeaaGreat.Ev
