/- ArmNumbers: two runs. -/
import Derived.Test.YtbepakbjinhjcaaGreatDoorKg
namespace Go.Proofs.YtbepakbjinhjcaaGreatDoor.W23
open Go Go.RowKit Go.Proofs.YtbepakbjinhjcaaGreatDoor.Ev
noncomputable section
set_option maxRecDepth 1000000
theorem wLL (A B : Nat) : flwC (runN A B true) oLL [] = some (.bool true, allC true A B (lawLL (atW A B)) (finLL (atW A B))) := by kernel_rfl
theorem nLL (A B : Nat) : flwC (runN A B false) oLL [] = some (.bool true, allC false A B (lawLL (atN A B)) (finLL (atN A B))) := by kernel_rfl
end
end Go.Proofs.YtbepakbjinhjcaaGreatDoor.W23
