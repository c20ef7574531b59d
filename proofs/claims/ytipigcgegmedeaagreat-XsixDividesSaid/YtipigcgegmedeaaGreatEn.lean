/- The evaluator's operations: each goes on in one way alone, and looks at nothing but its operands' blocks. -/
import Derived.Test.YtipigcgegmedeaaGreatEm
namespace Go.Proofs.YtipigcgegmedeaaGreat.Ev
open Go
set_option linter.unusedVariables false
set_option linter.unusedSimpArgs false
noncomputable section
variable {R : Type} {P : Program} {o : Oper} {ts : List AV}

theorem cond_bind {α β : Type} (b : Bool) (x y : Option α) (K : α → Option β) : (bif b then x else y).bind K = bif b then x.bind K else y.bind K := by cases b <;> rfl
theorem nat_bind {α β : Type} (F : (R : Type) → (α → Option R) → Option R) (hn : ∀ (R : Type) (K : α → Option R), F R K = (F α some).bind K) (G : α → Option R) (K : R → Option β) : (F R G).bind K = F β fun x => (G x).bind K := by
  rw [hn R G, hn β (fun x => (G x).bind K), Option.bind_assoc]
theorem load_nat (g : Gt) (t : TypeId) (a : Adr) (K : AV → Option R) : loadE P g t a K = (loadE P g t a some).bind K := by
  unfold loadE
  split
  · rw [cond_bind]
    congr 1
    split <;> first | rfl | (rw [cond_bind]; rfl) | (split <;> rfl)
  · rfl
theorem store_nat (g : Gt) (t : TypeId) (a : Adr) (v : AV) (K : Dl → Option R) : storeE P g t a v K = (storeE P g t a v some).bind K := by
  unfold storeE
  split
  · rw [cond_bind, cond_bind]; rfl
  · rfl
theorem step_nat (g : Gt) (a : Adr) (i e : Nat) (K : Adr → Option R) : stepE g a i e K = (stepE g a i e some).bind K := by
  unfold stepE
  split
  · rw [cond_bind, cond_bind]; rfl
  · rfl
theorem step_bind {β : Type} (g : Gt) (a : Adr) (i e : Nat) (G : Adr → Option R) (K : R → Option β) : (stepE g a i e G).bind K = stepE g a i e fun q => (G q).bind K := nat_bind (fun R K => stepE g a i e K) (fun R K => step_nat g a i e K) G K
theorem plain_nat (K : AV → Option R) : plainE P ts o K = (plainE P ts o some).bind K := by
  unfold plainE
  split
  · rfl
  · rw [cond_bind]
    congr 1
    split <;> rfl
theorem pick_nat (c x y : Operand) (K : AV → Option R) : pickE ts c x y K = (pickE ts c x y some).bind K := by
  unfold pickE
  split
  · rw [cond_bind]; rfl
  · rfl
theorem zeroL_nat {β : Type} (t : TypeId) (K : List AV → Option R) : zeroL P t K = (zeroL P t some).bind K := by
  unfold zeroL
  split <;> rfl
theorem zeroL_bind {β : Type} (t : TypeId) (F : List AV → Option R) (K : R → Option β) : (zeroL P t F).bind K = zeroL P t fun cs => (F cs).bind K := by
  unfold zeroL
  split <;> rfl
theorem new_nat (base : Nat) (cs : List AV) (K : KD R) : newD base cs K = (newD base cs fun v d => some (v, d)).bind fun p => K p.1 p.2 := by
  unfold newD
  rw [cond_bind]; rfl
theorem nilCheck_nat (v : AV) (K : AV → Option R) : nilCheckE v K = (nilCheckE v some).bind K := by
  unfold nilCheckE
  split <;> rfl
theorem fieldAddr_nat (s : TypeId) (f : Nat) (v : AV) (K : AV → Option R) : fieldAddrE P s f v K = (fieldAddrE P s f v some).bind K := by
  unfold fieldAddrE
  split
  · split
    · split
      · rw [cond_bind]; rfl
      · rfl
    · rfl
  · rfl
theorem indexAddr_nat (g : Gt) (t : TypeId) (v ix : AV) (K : AV → Option R) : indexAddrE P g t v ix K = (indexAddrE P g t v ix some).bind K := by
  unfold indexAddrE
  split
  · split
    · rw [cond_bind, step_bind]; rfl
    · rfl
  · split
    · rw [cond_bind, step_bind]; rfl
    · rfl
  · rfl
theorem extract_nat (i : Nat) (v : AV) (K : AV → Option R) : extractE i v K = (extractE i v some).bind K := by
  unfold extractE
  split
  · split <;> rfl
  · rfl
theorem part_nat (t : TypeId) (cs : List AV) (off : Nat) (K : AV → Option R) : partE P t cs off K = (partE P t cs off some).bind K := by
  unfold partE
  split
  · rfl
  · split <;> rfl
  · rfl
theorem field_nat (t : TypeId) (f : Nat) (v : AV) (K : AV → Option R) : fieldE P t f v K = (fieldE P t f v some).bind K := by
  unfold fieldE
  split
  · split
    · exact part_nat _ _ _ K
    · rfl
  · rfl
theorem index_nat (t : TypeId) (v ix : AV) (K : AV → Option R) : indexE P t v ix K = (indexE P t v ix some).bind K := by
  unfold indexE
  split
  · split
    · rw [cond_bind, part_nat _ _ _ K]; rfl
    · rfl
  · rfl
theorem makeInterface_nat (t : TypeId) (v : AV) (K : AV → Option R) : makeInterfaceE P t v K = (makeInterfaceE P t v some).bind K := by
  unfold makeInterfaceE
  split <;> rfl
theorem len_nat (t : TypeId) (v : AV) (K : AV → Option R) : lenE P t v K = (lenE P t v some).bind K := by
  unfold lenE
  split <;> rfl
theorem build_nat (t : TypeId) (ps : List (Nat × AV)) (K : AV → Option R) : buildE P t ps K = (buildE P t ps some).bind K := by
  unfold buildE
  rw [cond_bind]
  congr 1
  split
  · rw [cond_bind, zeroL_bind]
    congr 2
    funext z
    split <;> rfl
  · split
    · rw [zeroL_bind]
      congr 1
      funext z
      split <;> rfl
    · rfl
  · rfl
theorem bound_nat (v : Option AV) (y d : Nat) (K : Nat → Option R) : boundE v y d K = (boundE v y d some).bind K := by
  unfold boundE
  split
  · rfl
  · rw [cond_bind]; rfl
  · rfl
theorem bounds_nat (len cap : Nat) (lo hi mx : Option AV) (K : Nat → Nat → Nat → Option R) : boundsE len cap lo hi mx K = (boundsE len cap lo hi mx fun l h m => some (l, h, m)).bind fun p => K p.1 p.2.1 p.2.2 := by
  unfold boundsE
  rw [bound_nat mx, bound_nat mx _ _ (fun m => boundE hi m len fun h => bif mx.isNone || hi.isSome then boundE lo h 0 fun l => some (l, h, m) else none), Option.bind_assoc]
  congr 1
  funext m
  rw [bound_nat hi, bound_nat hi _ _ (fun h => bif mx.isNone || hi.isSome then boundE lo h 0 fun l => some (l, h, m) else none), Option.bind_assoc]
  congr 1
  funext h
  rw [cond_bind]
  congr 1
  rw [bound_nat lo, bound_nat lo _ _ (fun l => some (l, h, m)), Option.bind_assoc]
  rfl
theorem bounds_bind {β : Type} (len cap : Nat) (lo hi mx : Option AV) (F : Nat → Nat → Nat → Option R) (K : R → Option β) : (boundsE len cap lo hi mx F).bind K = boundsE len cap lo hi mx fun l h m => (F l h m).bind K := by
  rw [bounds_nat len cap lo hi mx F, bounds_nat len cap lo hi mx (fun l h m => (F l h m).bind K), Option.bind_assoc]
theorem slice_nat (g : Gt) (t : TypeId) (v : AV) (lo hi mx : Option AV) (K : AV → Option R) : sliceE P g t v lo hi mx K = (sliceE P g t v lo hi mx some).bind K := by
  unfold sliceE
  split
  · split
    · rw [cond_bind, bounds_bind]
      congr 2
      funext l hh m'
      split
      · rfl
      · rw [cond_bind]
        congr 1
        · split
          · rfl
          · rw [cond_bind]; rfl
        · rw [step_bind]; rfl
    · rfl
  · split
    · rw [bounds_bind]; rfl
    · rfl
  · split
    · split
      · rw [cond_bind, bounds_bind]
        congr 2
        funext l hh m'
        split
        · rfl
        · rw [cond_bind, step_bind]; rfl
      · rfl
    · rfl
  · rfl
theorem buildSlice_nat (base : Nat) (t : TypeId) (n : Nat) (ps : List (Nat × AV)) (K : KD R) : buildSliceD P base t n ps K = (buildSliceD P base t n ps fun v d => some (v, d)).bind fun p => K p.1 p.2 := by
  unfold buildSliceD
  split
  · split
    · rw [cond_bind, zeroL_bind]
      congr 2
      funext z
      rw [cond_bind]
      congr 1
      split
      · rw [cond_bind]; rfl
      · rfl
    · rfl
  · rfl
theorem makeSlice_nat (base : Nat) (t : TypeId) (l c : AV) (K : KD R) : makeSliceD P base t l c K = (makeSliceD P base t l c fun v d => some (v, d)).bind fun p => K p.1 p.2 := by
  unfold makeSliceD
  split
  · split
    · rw [cond_bind, zeroL_bind]
      congr 2
      funext z
      rw [cond_bind]; rfl
    · rfl
  · rfl
theorem src_nat (g : Gt) (size : Nat) (x : AV) (K : Nat → List Col → Nat → Option R) : srcE g size x K = (srcE g size x fun n c r => some (n, c, r)).bind fun p => K p.1 p.2.1 p.2.2 := by
  unfold srcE
  split
  · rfl
  · rfl
  · rw [cond_bind]; rfl
  · split
    · rw [cond_bind]; rfl
    · rfl
  · rfl
theorem src_bind {β : Type} (g : Gt) (size : Nat) (x : AV) (F : Nat → List Col → Nat → Option R) (K : R → Option β) : (srcE g size x F).bind K = srcE g size x fun n c r => (F n c r).bind K := by
  rw [src_nat g size x F, src_nat g size x (fun n c r => (F n c r).bind K), Option.bind_assoc]
theorem grow_nat (base : Nat) (p : Adr) (B : Blk) (ie : TypeInfo) (len n : Nat) (cols : List Col) (row : Nat) (K : KD R) : growD base p B ie len n cols row K = (growD base p B ie len n cols row fun v d => some (v, d)).bind fun p => K p.1 p.2 := by
  unfold growD
  rw [cond_bind]; rfl
theorem append_nat (g : Gt) (base : Nat) (st xt : TypeId) (s x : AV) (K : KD R) : appendD P g base st xt s x K = (appendD P g base st xt s x fun v d => some (v, d)).bind fun p => K p.1 p.2 := by
  unfold appendD
  split
  · rw [cond_bind]
    congr 1
    split
    · rw [cond_bind, src_bind]
      congr 2
      funext n cols row
      split
      · rw [cond_bind, cond_bind]; rfl
      · rw [cond_bind]
        congr 1
        split
        · rw [cond_bind]
          congr 1
          split
          · rw [cond_bind, cond_bind, grow_nat]; rfl
          · rw [grow_nat]
        · rfl
      · rfl
    · rfl
  · rfl
theorem copy_nat (g : Gt) (dt : TypeId) (d s : AV) (K : KD R) : copyD P g dt d s K = (copyD P g dt d s fun v d => some (v, d)).bind fun p => K p.1 p.2 := by
  unfold copyD
  split
  · split
    · rw [cond_bind]
      congr 1
      split
      · rw [src_bind]; rfl
      · rw [src_bind]; rfl
      · split
        · split
          · unfold copyCells
            split
            · split
              · rw [cond_bind]; rfl
              · rfl
            · rfl
          · rw [src_bind]
            congr 1
            funext n c r
            split
            · rfl
            · rw [cond_bind]; rfl
        · rfl
      · rfl
    · rfl
  · rfl
theorem bstr_nat (g : Gt) (s d : TypeId) (x : AV) (K : AV → Option R) : bstrE P g s d x K = (bstrE P g s d x some).bind K := by
  unfold bstrE
  split
  · split
    · split
      · rfl
      · split
        · split
          · rw [cond_bind]; rfl
          · rw [cond_bind]; rfl
          · rfl
        · rfl
      · rfl
    · rfl
  · rfl
theorem same_nat {F : (AV → Option R) → Option R} {G : Option AV} {K : KD R} (h : ∀ K', F K' = G.bind K') : F (fun v => K v .same) = (G.bind fun v => some (v, Dl.same)).bind fun p => K p.1 p.2 := by
  rw [h, Option.bind_assoc]; rfl

theorem nat_val (F : (R : Type) → (AV → Option R) → Option R) (hn : ∀ (R : Type) (K : AV → Option R), F R K = (F AV some).bind K) (K : KD R) : F R (fun v => K v .same) = (F (AV × Dl) fun v => some (v, Dl.same)).bind fun p => K p.1 p.2 :=
  (nat_bind F hn (fun v => some (v, Dl.same)) fun p => K p.1 p.2).symm
theorem nat_dl (F : (R : Type) → (Dl → Option R) → Option R) (hn : ∀ (R : Type) (K : Dl → Option R), F R K = (F Dl some).bind K) (v : AV) (K : KD R) : F R (fun d => K v d) = (F (AV × Dl) fun d => some (v, d)).bind fun p => K p.1 p.2 :=
  (nat_bind F hn (fun d => some (v, d)) fun p => K p.1 p.2).symm
/-- The value and what is done to the store. -/
def evV (P : Program) (g : Gt) (base : Nat) (ts : List AV) (o : Oper) : Option (AV × Dl) := evD P g base ts o fun v d => some (v, d)
theorem evD_nat (g : Gt) (base : Nat) (K : KD R) : evD P g base ts o K = (evV P g base ts o).bind fun p => K p.1 p.2 := by
  unfold evV evD
  split
  · rfl
  · rfl
  · exact nat_val (fun R K => pickE ts _ _ _ K) (fun R K => pick_nat _ _ _ K) K
  · split
    · exact nat_val (fun R K => loadE P g _ _ K) (fun R K => load_nat _ _ _ K) K
    · rfl
  · split
    · exact nat_dl (fun R K => storeE P g _ _ _ K) (fun R K => store_nat _ _ _ _ K) _ K
    · rfl
  · rw [zeroL_bind]
    congr 1
    funext cs
    exact new_nat _ _ _
  · exact new_nat _ _ _
  · exact nat_val (fun R K => buildE P _ _ K) (fun R K => build_nat _ _ K) K
  · exact buildSlice_nat _ _ _ _ _
  · exact nat_val (fun R K => nilCheckE _ K) (fun R K => nilCheck_nat _ K) K
  · exact nat_val (fun R K => fieldAddrE P _ _ _ K) (fun R K => fieldAddr_nat _ _ _ K) K
  · exact nat_val (fun R K => indexAddrE P g _ _ _ K) (fun R K => indexAddr_nat _ _ _ _ K) K
  · split
    · exact nat_val (fun R K => plainE P ts o K) (fun R K => plain_nat K) K
    · exact nat_val (fun R K => sliceE P g _ _ _ _ _ K) (fun R K => slice_nat _ _ _ _ _ _ K) K
  · exact makeSlice_nat _ _ _ _ _
  · exact nat_val (fun R K => extractE _ _ K) (fun R K => extract_nat _ _ K) K
  · exact nat_val (fun R K => fieldE P _ _ _ K) (fun R K => field_nat _ _ _ K) K
  · split
    · exact nat_val (fun R K => indexE P _ _ _ K) (fun R K => index_nat _ _ _ K) K
    · exact nat_val (fun R K => plainE P ts o K) (fun R K => plain_nat K) K
  · exact nat_val (fun R K => makeInterfaceE P _ _ K) (fun R K => makeInterface_nat _ _ K) K
  · split
    · rfl
    · exact nat_val (fun R K => plainE P ts o K) (fun R K => plain_nat K) K
  · split
    · exact nat_val (fun R K => bstrE P g _ _ _ K) (fun R K => bstr_nat _ _ _ _ K) K
    · exact nat_val (fun R K => bstrE P g _ _ _ K) (fun R K => bstr_nat _ _ _ _ K) K
    · exact nat_val (fun R K => plainE P ts o K) (fun R K => plain_nat K) K
  · unfold builtinE
    split
    · split
      · exact nat_val (fun R K => lenE P _ _ K) (fun R K => len_nat _ _ K) K
      · rfl
    · split
      · exact append_nat _ _ _ _ _ _ _
      · rfl
    · split
      · exact copy_nat _ _ _ _ _
      · rfl
    · exact nat_val (fun R K => plainE P ts o K) (fun R K => plain_nat K) K
    · rfl
  · exact nat_val (fun R K => plainE P ts o K) (fun R K => plain_nat K) K

/-- What is written over was there. -/
def FitsO (g : Gt) (x : Option (AV × Dl)) : Prop := ∀ v d, x = some (v, d) → Fits g d
theorem fits_same {g : Gt} {x : Option AV} : FitsO g (x.bind fun v => some (v, Dl.same)) := by
  intro v d h n B e
  cases x with
  | none => cases h
  | some y => simp only [Option.bind_some, Option.some.injEq, Prod.mk.injEq] at h; rw [← h.2] at e; cases e
theorem fits_value {g : Gt} {F : (R : Type) → (AV → Option R) → Option R} (hn : ∀ (R : Type) (K : AV → Option R), F R K = (F AV some).bind K) : FitsO g (F (AV × Dl) fun v => some (v, Dl.same)) := by
  rw [hn]; exact fits_same
theorem fits_zero {g : Gt} {t : TypeId} {F : List AV → Option (AV × Dl)} (h : ∀ cs, FitsO g (F cs)) : FitsO g (zeroL P t F) := by
  unfold zeroL
  split
  · exact h _
  · intro v d e; cases e
theorem fits_none {g : Gt} : FitsO g none := fun v d e => by cases e
theorem fits_cond {g : Gt} {b : Bool} {x y : Option (AV × Dl)} (hx : b = true → FitsO g x) (hy : b = false → FitsO g y) : FitsO g (bif b then x else y) := by
  cases b
  · exact hy rfl
  · exact hx rfl
theorem fits_some {g : Gt} {v : AV} {d : Dl} (h : Fits g d) : FitsO g (some (v, d)) := fun v' d' e => by cases e; exact h
theorem fits_new {g : Gt} {base : Nat} {cs : List AV} : FitsO g (newD base cs fun v d => some (v, d)) := by
  unfold newD
  exact fits_cond (fun _ => fits_some fun _ _ e => by cases e) fun _ => fits_none
theorem fits_src {g : Gt} {size : Nat} {x : AV} {F : Nat → List Col → Nat → Option (AV × Dl)} (h : ∀ n c r, FitsO g (F n c r)) : FitsO g (srcE g size x F) := by
  unfold srcE
  split
  · exact h _ _ _
  · exact h _ _ _
  · exact fits_cond (fun _ => h _ _ _) fun _ => fits_none
  · split
    · exact fits_cond (fun _ => h _ _ _) fun _ => fits_none
    · exact fits_none
  · exact fits_none
theorem fits_grow {g : Gt} {base : Nat} {p : Adr} {B : Blk} {ie : TypeInfo} {len n : Nat} {cols : List Col} {row : Nat} : FitsO g (growD base p B ie len n cols row fun v d => some (v, d)) := by
  unfold growD
  exact fits_cond (fun _ => fits_some fun _ _ e => by cases e) fun _ => fits_none
theorem evV_fits (g : Gt) (base : Nat) : FitsO g (evV P g base ts o) := by
  unfold evV evD
  split
  · exact fits_some fun _ _ e => by cases e
  · exact fits_some fun _ _ e => by cases e
  · exact fits_value (F := fun R K => pickE ts _ _ _ K) fun R K => pick_nat _ _ _ K
  · split
    · exact fits_value (F := fun R K => loadE P g _ _ K) fun R K => load_nat _ _ _ K
    · exact fits_none
  · split
    · unfold storeE
      split
      · rename_i B hB
        exact fits_cond (fun _ => fits_cond (fun _ => fits_some fun _ _ e => by cases e; exact ⟨_, hB, Nat.lt_succ_self _⟩) fun _ => fits_none) fun _ => fits_none
      · exact fits_none
    · exact fits_none
  · exact fits_zero fun cs => fits_new
  · exact fits_new
  · exact fits_value (F := fun R K => buildE P _ _ K) fun R K => build_nat _ _ K
  · unfold buildSliceD
    split
    · split
      · refine fits_cond (fun _ => fits_zero fun z => fits_cond (fun _ => ?_) fun _ => fits_none) fun _ => fits_none
        split
        · exact fits_cond (fun _ => fits_some fun _ _ e => by cases e) fun _ => fits_none
        · exact fits_none
      · exact fits_none
    · exact fits_none
  · exact fits_value (F := fun R K => nilCheckE _ K) fun R K => nilCheck_nat _ K
  · exact fits_value (F := fun R K => fieldAddrE P _ _ _ K) fun R K => fieldAddr_nat _ _ _ K
  · exact fits_value (F := fun R K => indexAddrE P g _ _ _ K) fun R K => indexAddr_nat _ _ _ _ K
  · split
    · exact fits_value (F := fun R K => plainE P ts o K) fun R K => plain_nat K
    · exact fits_value (F := fun R K => sliceE P g _ _ _ _ _ K) fun R K => slice_nat _ _ _ _ _ _ K
  · unfold makeSliceD
    split
    · split
      · exact fits_cond (fun _ => fits_zero fun z => fits_cond (fun _ => fits_some fun _ _ e => by cases e) fun _ => fits_none) fun _ => fits_none
      · exact fits_none
    · exact fits_none
  · exact fits_value (F := fun R K => extractE _ _ K) fun R K => extract_nat _ _ K
  · exact fits_value (F := fun R K => fieldE P _ _ _ K) fun R K => field_nat _ _ _ K
  · split
    · exact fits_value (F := fun R K => indexE P _ _ _ K) fun R K => index_nat _ _ _ K
    · exact fits_value (F := fun R K => plainE P ts o K) fun R K => plain_nat K
  · exact fits_value (F := fun R K => makeInterfaceE P _ _ K) fun R K => makeInterface_nat _ _ K
  · split
    · exact fits_some fun _ _ e => by cases e
    · exact fits_value (F := fun R K => plainE P ts o K) fun R K => plain_nat K
  · split
    · exact fits_value (F := fun R K => bstrE P g _ _ _ K) fun R K => bstr_nat _ _ _ _ K
    · exact fits_value (F := fun R K => bstrE P g _ _ _ K) fun R K => bstr_nat _ _ _ _ K
    · exact fits_value (F := fun R K => plainE P ts o K) fun R K => plain_nat K
  · unfold builtinE
    split
    · split
      · exact fits_value (F := fun R K => lenE P _ _ K) fun R K => len_nat _ _ K
      · exact fits_none
    · split
      · unfold appendD
        split
        · refine fits_cond (fun _ => ?_) fun _ => fits_none
          split
          · refine fits_cond (fun _ => fits_src fun n c r => ?_) fun _ => fits_none
            split
            · exact fits_cond (fun _ => fits_some fun _ _ e => by cases e) fun _ => fits_cond (fun _ => fits_some fun _ _ e => by cases e) fun _ => fits_none
            · refine fits_cond (fun _ => fits_some fun _ _ e => by cases e) fun _ => ?_
              split
              · rename_i B hB
                refine fits_cond (fun _ => ?_) fun _ => fits_none
                split
                · exact fits_cond (fun _ => fits_cond (fun _ => fits_some fun _ _ e => by cases e; exact ⟨_, hB, Nat.lt_succ_self _⟩) fun _ => fits_none) fun _ => fits_grow
                · exact fits_grow
              · exact fits_none
            · exact fits_none
          · exact fits_none
        · exact fits_none
      · exact fits_none
    · split
      · unfold copyD
        split
        · split
          · refine fits_cond (fun _ => ?_) fun _ => fits_none
            split
            · exact fits_src fun _ _ _ => fits_some fun _ _ e => by cases e
            · exact fits_src fun _ _ _ => fits_some fun _ _ e => by cases e
            · split
              · rename_i B hB
                split
                · unfold copyCells
                  split
                  · split
                    · exact fits_cond (fun _ => fits_some fun _ _ e => by cases e; exact ⟨_, hB, Nat.lt_succ_self _⟩) fun _ => fits_none
                    · exact fits_none
                  · exact fits_none
                · refine fits_src fun n c r => ?_
                  split
                  · exact fits_some fun _ _ e => by cases e
                  · exact fits_cond (fun _ => fits_some fun _ _ e => by cases e; exact ⟨_, hB, Nat.lt_succ_self _⟩) fun _ => fits_none
              · exact fits_none
            · exact fits_none
          · exact fits_none
        · exact fits_none
      · exact fits_none
    · exact fits_value (F := fun R K => plainE P ts o K) fun R K => plain_nat K
    · exact fits_none
  · exact fits_value (F := fun R K => plainE P ts o K) fun R K => plain_nat K
end
end Go.Proofs.YtipigcgegmedeaaGreat.Ev
