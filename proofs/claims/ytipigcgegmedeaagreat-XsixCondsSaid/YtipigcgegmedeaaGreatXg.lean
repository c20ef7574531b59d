/- XsixConds: what is known, and the run. -/
import Derived.Test.YtipigcgegmedeaaGreatXf
namespace Go.Proofs.YtipigcgegmedeaaGreat.W21
open Go Go.Proofs.YtipigcgegmedeaaGreat.Ev
noncomputable section
abbrev B1 : Tb := [(7, .e (.val yes)), (9, .e (.blk (oneArg zs mk_v mk_B))), (11, .frm oneG)]
theorem B1_ok {R : Type} : Sound Tryz.prog (BSs B1 : Specs R) := tb_cons (.inl (yes_tab okl_ok.symm T1_ok rfl (by decide) first_true)) (tb_cons (.inl (laid1_sound okl_ok.symm tab_nil rfl (by decide) mk_run)) (tb_cons (.inl one_sound) tb_nil))
def cargs (A B : Nat) (w : Bool) : List AV := [.int .u64 (.ofNat A), .int .u64 (.ofNat B), .bool w]
def crun (A B : Nat) (w : Bool) : W3 (AV × Blks) := locQ Tryz.prog 300 7 okl B1 30 6 (cargs A B w) [] []
end
end Go.Proofs.YtipigcgegmedeaaGreat.W21
