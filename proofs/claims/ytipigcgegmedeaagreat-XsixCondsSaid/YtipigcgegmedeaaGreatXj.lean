/- XsixConds: the call. -/
import Derived.Test.YtipigcgegmedeaaGreatXieew
import Derived.Test.YtipigcgegmedeaaGreatXieen
import Derived.Test.YtipigcgegmedeaaGreatXillw
import Derived.Test.YtipigcgegmedeaaGreatXilln
import Derived.Test.YtipigcgegmedeaaGreatXilgw
import Derived.Test.YtipigcgegmedeaaGreatXilgn
import Derived.Test.YtipigcgegmedeaaGreatXiglw
import Derived.Test.YtipigcgegmedeaaGreatXigln
import Derived.Test.YtipigcgegmedeaaGreatXiggw
import Derived.Test.YtipigcgegmedeaaGreatXiggn
namespace Go.Proofs.YtipigcgegmedeaaGreat.W21
open Go Go.RowKit Go.Proofs.YtipigcgegmedeaaGreat.Ev
set_option linter.unusedVariables false
noncomputable section
theorem conds_end {A B : Nat} {w : Bool} {os : List (Nat × Bool)} {l : List Bool} (h : flw3 (crun A B w) os [] = some ((.bool true, []), l)) (hl : ∀ t ∈ l, t = true) : LocOk Tryz.prog 0 6 (cargs A B w) [] (.bool true) [] :=
  loc_of_run okl_ok.symm B1_ok rfl h hl (cov_of rfl rfl (.bool true) rfl) rfl
theorem conds_loc (A B : Nat) (w : Bool) (hA : A < 18446744073709551616) (hB : B < 18446744073709551616) : LocOk Tryz.prog 0 6 (cargs A B w) [] (.bool true) [] := by
  have sA := same_true 72 185 hA
  have sB := same_true 72 186 hB
  cases w with
  | true =>
    rcases ways (asksW hA hB) with h | h | h | h | h
    · exact conds_end (runEEw A B) (by rw [sA, sB]; exact h)
    · exact conds_end (runLLw A B) (by rw [sA, sB]; exact h)
    · exact conds_end (runLGw A B) (by rw [sA, sB]; exact h)
    · exact conds_end (runGLw A B) (by rw [sA, sB]; exact h)
    · exact conds_end (runGGw A B) (by rw [sA, sB]; exact h)
  | false =>
    rcases ways (asksN hA hB) with h | h | h | h | h
    · exact conds_end (runEEn A B) (by rw [sA, sB]; exact h)
    · exact conds_end (runLLn A B) (by rw [sA, sB]; exact h)
    · exact conds_end (runLGn A B) (by rw [sA, sB]; exact h)
    · exact conds_end (runGLn A B) (by rw [sA, sB]; exact h)
    · exact conds_end (runGGn A B) (by rw [sA, sB]; exact h)
theorem condsCalls (a : Int) (ha : (Lit.int .u64 a).wf = true) (b : Int) (hb : (Lit.int .u64 b).wf = true) (w : Bool) (W : World) :
    Calls Tryz.prog 6 #[.int .u64 a, .int .u64 b, .bool w] W fun e w' => e = .returned (.bool true) ∧ Below W.heap.size W w' := by
  obtain ⟨a1, a2⟩ := Go.bounds_u64 ha
  obtain ⟨b1, b2⟩ := Go.bounds_u64 hb
  obtain ⟨A, rfl⟩ := Int.eq_ofNat_of_zero_le a1
  obtain ⟨B, rfl⟩ := Int.eq_ofNat_of_zero_le b1
  have hc : CR (fun _ => none) (cargs A B w) [.int .u64 A, .int .u64 B, .bool w] := ⟨rfl, fun i a b => match i, a, b with
    | 0, _, _ => .int .u64 A
    | 1, _, _ => .int .u64 B
    | 2, _, _ => .bool w
    | i + 3, a, _ => absurd a (by simp [cargs])⟩
  exact law_of_loc (xs := #[.int .u64 A, .int .u64 B, .bool w]) (conds_loc A B w (by omega) (by omega)) hc W
end
end Go.Proofs.YtipigcgegmedeaaGreat.W21
