/- Contracts by closed runs, for the tables of what is known. -/
import Derived.Test.YtipigcgegmedeaaGreatGb
namespace Go.Proofs.YtipigcgegmedeaaGreat.Ev
open Go Go.RowKit
set_option linter.unusedVariables false
set_option linter.unusedSimpArgs false
noncomputable section
variable {R : Type} {P : Program}

/-- The same value, without addresses. -/
def eqA : Nat → AV → AV → Bool
  | _, .bool b, .bool c => b == c
  | _, .int k n, .int k' n' => eqK k k' && eqQ n n'
  | _, .str s, .str s' => s == s'
  | _, .ptr none, .ptr none => true
  | _, .nils, .nils => true
  | _, .nilIface, .nilIface => true
  | d + 1, .agg cs, .agg ds => listB (eqA d) cs ds
  | _, _, _ => false
theorem eqA_eq : ∀ (d : Nat) (x y : AV), eqA d x y = true → x = y ∧ flat d x = true := by
  intro d
  induction d with
  | zero =>
    intro x y h
    unfold eqA at h
    split at h <;> first
      | (have := eq_of_beq h; subst this; exact ⟨rfl, rfl⟩)
      | (simp only [Bool.and_eq_true] at h; obtain ⟨h1, h2⟩ := h; have := eqK_eq h1; subst this; rw [eqQ_eq] at h2; have := eq_of_beq h2; subst this; exact ⟨rfl, rfl⟩)
      | (rename_i e; cases e; done)
      | exact ⟨rfl, rfl⟩
      | (cases h; done)
  | succ d ih =>
    intro x y h
    unfold eqA at h
    split at h <;> first
      | (rename_i e
         have e' := Nat.succ.inj e
         subst e'
         obtain ⟨h1, h2⟩ := listB_eq ih _ _ h
         refine ⟨congrArg AV.agg (List.ext_getElem h1 fun i a b => (h2 i a b).1), ?_⟩
         simp only [flat, List.all_eq_true]
         intro z hz
         obtain ⟨i, hi, rfl⟩ := List.getElem_of_mem hz
         exact (h2 i hi (h1 ▸ hi)).2)
      | (obtain ⟨h1, h2⟩ := listB_eq ih _ _ h
         refine ⟨congrArg AV.agg (List.ext_getElem h1 fun i a b => (h2 i a b).1), ?_⟩
         simp only [flat, List.all_eq_true]
         intro z hz
         obtain ⟨i, hi, rfl⟩ := List.getElem_of_mem hz
         exact (h2 i hi (h1 ▸ hi)).2)
      | (have := eq_of_beq h; subst this; exact ⟨rfl, rfl⟩)
      | (simp only [Bool.and_eq_true] at h; obtain ⟨h1, h2⟩ := h; have := eqK_eq h1; subst this; rw [eqQ_eq] at h2; have := eq_of_beq h2; subst this; exact ⟨rfl, rfl⟩)
      | exact ⟨rfl, rfl⟩
      | (cases h; done)
/-- A call of one argument that is told. -/
def oneArg (x0 : AV) (v : AV) (Bs : List Blk) : List AV → Option (AV × List Blk) := fun args => match args with
  | [x] => bif eqA 3 x x0 then some (v, Bs) else none
  | _ => none
theorem laid1_sound {N W n f : Nat} {ok : List FuncId} {T : Tab} {S : List Nm} {x0 v : AV} {Bs : List Blk} (hok : okAll P ok = true) (hT : Sound P (TSs T : Specs (AV × Heap × Nat))) (hf : (TSs T f : Option (Spec (AV × Heap × Nat))) = none) (hW : 0 < W) (h : true = laidB P N W ok T n f [x0] S v Bs) :
    SoundSpec P f (entS (.blk (oneArg x0 v Bs)) : Spec R) := by
  obtain ⟨s, _, h2, h3⟩ := laid_ok hok hT hf hW h
  refine fresh_sound h2 fun args v' Bs' hg => ?_
  unfold oneArg at hg
  split at hg
  · rename_i x
    cases hb : eqA 3 x x0 with
    | false => rw [hb] at hg; cases hg
    | true =>
      rw [hb] at hg
      cases hg
      obtain ⟨rfl, e⟩ := eqA_eq 3 x x0 hb
      exact ⟨by simp [e], h3⟩
  · cases hg
theorem yes_tab {N W n f : Nat} {ok : List FuncId} {T : Tab} (hok : okAll P ok = true) (hT : Sound P (TSs T : Specs AV)) (hf : (TSs T f : Option (Spec AV)) = none) (hW : 0 < W) (h : true = tabT P N W ok T n f []) : SoundSpec P f (entS (.val yes) : Spec R) := by
  obtain ⟨s, h1, h2⟩ := tabT_run hW h
  refine pure_sound (DD_spec hok hT hf h1) fun args v hv => ?_
  unfold yes at hv
  split at hv
  · cases hv; exact ⟨rfl, rfl, h2⟩
  · cases hv
/-- A law's call by a closed or an open run. -/
theorem tab_calls {N n f : Nat} {ok : List FuncId} {T : Tab} {args : List AV} {xs : Array Value} (hok : okAll P ok = true) (hT : Sound P (TSs T : Specs AV)) (hf : (TSs T f : Option (Spec AV)) = none) (h : ∃ s, (DD P N ok (TSs T) n f : Option (Spec AV)) = some s ∧ s [] 0 args (fun v _ _ => some v) = some (.bool true)) (hc : CR (fun _ => none) args xs.toList) (w : World) :
    Calls P f xs w fun e w' => e = .returned (.bool true) ∧ Below w.heap.size w w' := by
  obtain ⟨s, h1, h2⟩ := h
  exact law_calls (DD_spec hok hT hf h1) rfl h2 hc w
end
end Go.Proofs.YtipigcgegmedeaaGreat.Ev
