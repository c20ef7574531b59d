/- ArmNumbers: two runs. -/
import Derived.Test.YtbepakbjinhjcaaGreatDoorKg
namespace Go.Proofs.YtbepakbjinhjcaaGreatDoor.W23
open Go Go.RowKit Go.Proofs.YtbepakbjinhjcaaGreatDoor.Ev
noncomputable section
set_option maxRecDepth 1000000
theorem wEE (A B : Nat) : flwC (runN A B true) oEE [] = some (.bool true, allC true A B (lawEE (atW A B)) (finEE (atW A B))) := by kernel_rfl
theorem nEE (A B : Nat) : flwC (runN A B false) oEE [] = some (.bool true, allC false A B (lawEE (atN A B)) (finEE (atN A B))) := by kernel_rfl
end
end Go.Proofs.YtbepakbjinhjcaaGreatDoor.W23
