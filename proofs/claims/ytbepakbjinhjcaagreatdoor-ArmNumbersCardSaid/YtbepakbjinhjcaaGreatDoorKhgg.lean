/- ArmNumbers: two runs. -/
import Derived.Test.YtbepakbjinhjcaaGreatDoorKg
namespace Go.Proofs.YtbepakbjinhjcaaGreatDoor.W23
open Go Go.RowKit Go.Proofs.YtbepakbjinhjcaaGreatDoor.Ev
noncomputable section
set_option maxRecDepth 1000000
theorem wGG (A B : Nat) : flwC (runN A B true) oGG [] = some (.bool true, allC true A B (lawGG (atW A B)) (finGG (atW A B))) := by kernel_rfl
theorem nGG (A B : Nat) : flwC (runN A B false) oGG [] = some (.bool true, allC false A B (lawGG (atN A B)) (finGG (atN A B))) := by kernel_rfl
end
end Go.Proofs.YtbepakbjinhjcaaGreatDoor.W23
