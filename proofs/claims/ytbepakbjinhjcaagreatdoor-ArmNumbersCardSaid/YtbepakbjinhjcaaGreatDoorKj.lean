/- ArmNumbers: the law, for every input. -/
import Derived.Test.YtbepakbjinhjcaaGreatDoorKi
import Derived.Test.YtbepakbjinhjcaaGreatDoorKhee
import Derived.Test.YtbepakbjinhjcaaGreatDoorKhll
import Derived.Test.YtbepakbjinhjcaaGreatDoorKhlg
import Derived.Test.YtbepakbjinhjcaaGreatDoorKhgl
import Derived.Test.YtbepakbjinhjcaaGreatDoorKhgg
namespace Go.Proofs.YtbepakbjinhjcaaGreatDoor.W23
open Go Go.RowKit Go.Proofs.YtbepakbjinhjcaaGreatDoor.Ev
set_option linter.unusedVariables false
noncomputable section
theorem runsN (A B : Nat) (w : Bool) (hA : A < 18446744073709551616) (hB : B < 18446744073709551616) : ∃ s, (DD Tryz.prog 300 okl (TSs (T5 A B w)) 30 5 : Option (Ev.Spec AV)) = some s ∧ s [] 0 (args A B w) (fun v _ _ => some v) = some (.bool true) := by
  cases w with
  | true =>
    rcases ways (asksW hA hB) with h | h | h | h | h
    · exact tabO_run (by decide) (wEE A B) (all_true h)
    · exact tabO_run (by decide) (wLL A B) (all_true h)
    · exact tabO_run (by decide) (wLG A B) (all_true h)
    · exact tabO_run (by decide) (wGL A B) (all_true h)
    · exact tabO_run (by decide) (wGG A B) (all_true h)
  | false =>
    rcases ways (asksN hA hB) with h | h | h | h | h
    · exact tabO_run (by decide) (nEE A B) (all_true h)
    · exact tabO_run (by decide) (nLL A B) (all_true h)
    · exact tabO_run (by decide) (nLG A B) (all_true h)
    · exact tabO_run (by decide) (nGL A B) (all_true h)
    · exact tabO_run (by decide) (nGG A B) (all_true h)
theorem callsN (a : Int) (ha : (Lit.int .u64 a).wf = true) (b : Int) (hb : (Lit.int .u64 b).wf = true) (w : Bool) (W : World) :
    Calls Tryz.prog 5 #[.int .u64 a, .int .u64 b, .bool w] W fun e w' => e = .returned (.bool true) ∧ Below W.heap.size W w' := by
  obtain ⟨a1, a2⟩ := Go.bounds_u64 ha
  obtain ⟨b1, b2⟩ := Go.bounds_u64 hb
  obtain ⟨A, rfl⟩ := Int.eq_ofNat_of_zero_le a1
  obtain ⟨B, rfl⟩ := Int.eq_ofNat_of_zero_le b1
  have hc : CR (fun _ => none) (args A B w) [.int .u64 A, .int .u64 B, .bool w] := ⟨rfl, fun i a b => match i, a, b with
    | 0, _, _ => .int .u64 A
    | 1, _, _ => .int .u64 B
    | 2, _, _ => .bool w
    | i + 3, a, _ => absurd a (by simp [args])⟩
  exact tab_calls (xs := #[.int .u64 A, .int .u64 B, .bool w]) okl_ok.symm (T5_ok A B w) rfl (runsN A B w (by omega) (by omega)) hc W
end
end Go.Proofs.YtbepakbjinhjcaaGreatDoor.W23
