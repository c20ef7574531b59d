/- XsixSums: the runs with halves of the numbers. -/
import Derived.Test.YtipigcgegmedeaaGreatXb
namespace Go.Proofs.YtipigcgegmedeaaGreat.W21
open Go Go.Proofs.YtipigcgegmedeaaGreat.Ev
noncomputable section
set_option maxRecDepth 1000000
theorem run_n (A B : Nat) : flwC (run A B false) [(418, false), (975, false), (144, false), (107, false), (194, true)] [] = some (.bool (lowV (sumN A B) == wantN A B && true),
  [!(no (eqQ (shrQ .u64 (sumN A B) 32) 0) == true), no (eqQ (carN A B) 1), sameV 73 186 (.ofNat B), sameV 72 184 (.ofNat A), no (overN A B)]) := by kernel_rfl
theorem run_nc (A B : Nat) : flwC (run A B false) [(418, true), (975, false), (144, false), (107, false), (194, false)] [] = some (.bool (xorQ .u64 (lowV (sumN A B)) (wrapQ .u64 (-1)) == notV (wantN A B) && true),
  [no (!(no (eqQ (shrQ .u64 (sumN A B) 32) 0) == true)), no (eqQ (carN A B) 1), sameV 73 186 (.ofNat B), sameV 72 184 (.ofNat A), overN A B]) := by kernel_rfl
end
end Go.Proofs.YtipigcgegmedeaaGreat.W21
