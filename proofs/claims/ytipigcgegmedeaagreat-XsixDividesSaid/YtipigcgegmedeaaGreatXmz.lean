/- XsixDivides: one of four runs. -/
import Derived.Test.YtipigcgegmedeaaGreatXl
namespace Go.Proofs.YtipigcgegmedeaaGreat.W21
open Go Go.Proofs.YtipigcgegmedeaaGreat.Ev
set_option maxRecDepth 1000000
theorem drun_z (h l d : Nat) : flw3 (drun h l d) o0 [] = some (((.bool true), []), dCond0 h l d) := by kernel_rfl
end Go.Proofs.YtipigcgegmedeaaGreat.W21
