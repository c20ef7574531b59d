/- XsixConds: one of ten runs. -/
import Derived.Test.YtipigcgegmedeaaGreatXg
import Derived.Test.YtipigcgegmedeaaGreatXh
namespace Go.Proofs.YtipigcgegmedeaaGreat.W21
open Go Go.Proofs.YtipigcgegmedeaaGreat.Ev
set_option maxRecDepth 1000000
theorem runGLn (A B : Nat) : flw3 (crun A B false) oGLn [] = some ((.bool true, []), condGL (atN A B) (sameV 72 185 (.ofNat A)) (sameV 72 186 (.ofNat B))) := by kernel_rfl
end Go.Proofs.YtipigcgegmedeaaGreat.W21
