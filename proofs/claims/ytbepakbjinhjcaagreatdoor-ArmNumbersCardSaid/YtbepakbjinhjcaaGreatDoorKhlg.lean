/- ArmNumbers: two runs. -/
import Derived.Test.YtbepakbjinhjcaaGreatDoorKg
namespace Go.Proofs.YtbepakbjinhjcaaGreatDoor.W23
open Go Go.RowKit Go.Proofs.YtbepakbjinhjcaaGreatDoor.Ev
noncomputable section
set_option maxRecDepth 1000000
theorem wLG (A B : Nat) : flwC (runN A B true) oLG [] = some (.bool true, allC true A B (lawLG (atW A B)) (finLG (atW A B))) := by kernel_rfl
theorem nLG (A B : Nat) : flwC (runN A B false) oLG [] = some (.bool true, allC false A B (lawLG (atN A B)) (finLG (atN A B))) := by kernel_rfl
end
end Go.Proofs.YtbepakbjinhjcaaGreatDoor.W23
