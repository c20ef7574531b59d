/- ArmDivides: the runs with halves of the numbers. -/
import Derived.Test.YtbepakbjinhjcaaGreatDoorKd
namespace Go.Proofs.YtbepakbjinhjcaaGreatDoor.W23
open Go Go.RowKit Go.Proofs.YtbepakbjinhjcaaGreatDoor.Ev
noncomputable section
set_option maxRecDepth 1000000
theorem run_n (A B : Nat) : flwC (run A B false) (OE ++ ((239, true) :: (0, false) :: (0, false) :: (OR ++ [(77, true), (0, false)]))) [] = some (.bool (valN A B), (encC clN [] (parts A B) ++ (nz (low B) :: nz (low B) :: nz (low B) :: (runC clN [] (parts A B) ++ [nz (lo (regQ B)), nz (lo (regQ B))]))).reverse) := by kernel_rfl
theorem run_n0 (A B : Nat) : flwC (run A B false) (OE ++ ((239, false) :: (OR ++ [(77, false)]))) [] = some (.bool (valN0 A B), (encC clN [] (parts A B) ++ (yz (low B) :: (runC clN [] (parts A B) ++ [yz (lo (regQ B))]))).reverse) := by kernel_rfl
end
end Go.Proofs.YtbepakbjinhjcaaGreatDoor.W23
