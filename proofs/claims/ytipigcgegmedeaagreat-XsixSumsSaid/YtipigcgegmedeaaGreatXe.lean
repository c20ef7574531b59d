/- XsixSums: the call. -/
import Derived.Test.YtipigcgegmedeaaGreatXd
import GoSem.Extern.MathBitsCarry
namespace Go.Proofs.YtipigcgegmedeaaGreat.W21
open Go Go.RowKit Go.Proofs.YtipigcgegmedeaaGreat.Ev
set_option linter.unusedVariables false
noncomputable section
def addE (args : Array Value) : Sem Value := do
  let (x, y, c) ← Extern.MathBitsCarry.three "Add64" args
  pure (Extern.MathBitsCarry.pair ((x + y + c) % Extern.MathBitsCarry.m64) ((x + y + c) / Extern.MathBitsCarry.m64))
theorem add_ext {R : Type} : SoundX Tryz.prog 77 (pureS addX : Ev.Spec R) := by
  refine ext_sound (fn := Tryz.f77) (e := addE) Tryz.func77 (by kernel_rfl) (by kernel_rfl) (by kernel_rfl) (by kernel_rfl) fun m ar xs v w hv hc => ?_
  unfold addX at hv
  split at hv
  · rename_i x y c
    cases hz : eqQ c 0 with
    | false => rw [hz] at hv; cases hv
    | true =>
      rw [hz, cond_true] at hv
      cases hv
      rw [eqQ_eq] at hz
      have := eq_of_beq hz
      subst this
      obtain ⟨l⟩ := xs
      obtain ⟨hl, hx⟩ := hc
      match l, hl, hx with
      | [a, b, d], _, hx =>
        have h0 := int_real (hx 0 (by simp) (by simp))
        have h1 := int_real (hx 1 (by simp) (by simp))
        have h2 := int_real (hx 2 (by simp) (by simp))
        simp only [List.getElem_cons_zero, List.getElem_cons_succ] at h0 h1 h2
        subst h0; subst h1; subst h2
        refine ⟨.tuple ⟨[.int .u64 (.ofNat ((x.toNat + y.toNat) % 18446744073709551616)), .int .u64 (.ofNat ((x.toNat + y.toNat) / 18446744073709551616))]⟩, ?_, ?_⟩
        · exact .tuple _ _ rfl fun i a b => match i, a, b with
            | 0, _, _ => .int _ _
            | 1, _, _ => .int _ _
            | i + 2, a, _ => absurd a (by simp)
        · rfl
  · cases hv
theorem T3_ok {R : Type} : Sound Tryz.prog (TSs T3 : Specs R) := tab_cons (.inr add_ext) T2_ok
theorem calls (a : Int) (ha : (Lit.int .u64 a).wf = true) (b : Int) (hb : (Lit.int .u64 b).wf = true) (w : Bool) (W : World) :
    Calls Tryz.prog 3 #[.int .u64 a, .int .u64 b, .bool w] W fun e w' => e = .returned (.bool true) ∧ Below W.heap.size W w' := by
  obtain ⟨a1, a2⟩ := Go.bounds_u64 ha
  obtain ⟨b1, b2⟩ := Go.bounds_u64 hb
  obtain ⟨A, rfl⟩ := Int.eq_ofNat_of_zero_le a1
  obtain ⟨B, rfl⟩ := Int.eq_ofNat_of_zero_le b1
  have hc : CR (fun _ => none) (args A B w) [.int .u64 A, .int .u64 B, .bool w] := ⟨rfl, fun i a b => match i, a, b with
    | 0, _, _ => .int .u64 A
    | 1, _, _ => .int .u64 B
    | 2, _, _ => .bool w
    | i + 3, a, _ => absurd a (by simp [args])⟩
  exact tab_calls (xs := #[.int .u64 A, .int .u64 B, .bool w]) okl_ok.symm T3_ok rfl (runs A B w (by omega) (by omega)) hc W
end
end Go.Proofs.YtipigcgegmedeaaGreat.W21
