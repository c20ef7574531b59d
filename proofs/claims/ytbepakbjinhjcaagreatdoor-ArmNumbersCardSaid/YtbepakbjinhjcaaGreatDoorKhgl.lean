/- ArmNumbers: two runs. -/
import Derived.Test.YtbepakbjinhjcaaGreatDoorKg
namespace Go.Proofs.YtbepakbjinhjcaaGreatDoor.W23
open Go Go.RowKit Go.Proofs.YtbepakbjinhjcaaGreatDoor.Ev
noncomputable section
set_option maxRecDepth 1000000
theorem wGL (A B : Nat) : flwC (runN A B true) oGL [] = some (.bool true, allC true A B (lawGL (atW A B)) (finGL (atW A B))) := by kernel_rfl
theorem nGL (A B : Nat) : flwC (runN A B false) oGL [] = some (.bool true, allC false A B (lawGL (atN A B)) (finGL (atN A B))) := by kernel_rfl
end
end Go.Proofs.YtbepakbjinhjcaaGreatDoor.W23
