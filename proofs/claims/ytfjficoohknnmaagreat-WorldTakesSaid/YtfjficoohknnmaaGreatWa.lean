/- The world's laws (layer 12): what must be answered ahead of everything else is answered. -/
import Derived.Test.YtfjficoohknnmaaGreatProg
import Derived.Test.YtfjficoohknnmaaGreatEy
import Derived.KernelRfl
namespace Go.Proofs.YtfjficoohknnmaaGreat.W12
open Go Go.Proofs.YtfjficoohknnmaaGreat.Ev
noncomputable section
/-- The functions that are run by their own trees. -/
def okl : List FuncId := [6, 7, 8, 9, 10, 11, 12, 13, 14, 15, 16, 17, 18, 19, 20, 21, 22, 23, 24, 25, 26, 27, 28, 29, 30, 31, 32, 33, 34, 35, 36, 37, 38, 39, 40, 41, 42, 43, 44, 45, 46, 47, 48, 49, 50, 51, 52, 53, 54, 55, 56, 57, 58, 59, 60, 61, 62, 63, 64, 65, 66, 67, 68, 69, 70, 71, 72, 73, 74, 75, 76, 77, 78, 79, 80, 81, 82]
theorem okl_ok : true = okAll Tryz.prog okl := by kernel_rfl
set_option maxRecDepth 1000000 in
theorem first_true : true = quickB Tryz.prog 300 7 okl 30 7 := by kernel_rfl
theorem known_sound {R : Type} : Sound Tryz.prog (KSs (oneK 7) : Specs R) := yes_sound okl_ok.symm (by decide) first_true
end
end Go.Proofs.YtfjficoohknnmaaGreat.W12
