/-
  No cell of these rows narrows 'for every input' (looked for: loops, veiled, ifaces, maps, wideKeys, modest, calm, conditions, laid).
  DERIVED. THE GIVEN ROWS OF THIS SEAT. 4 by the template 'for every input the law returns true; each argument reads behind the call as it read before'; 0 by the template 'total and deterministic' (their statements: YtipigcgegmedeaaGreatTotals.lean).
  GIVEN WITH THE SEED: the statements are not yours to turn. If you find one false, say at which input.
  Laid BY PROGRAM, IN A SANDBOX (cutbox-rows.mjs): the forced cells as the released guide's own fill.sh prints them over the translation 93f3feae599c3f2c… (all of the seat's roots in one cut). By AI agents, Wed Nov 11 2026. No macro, syntax, notation, axiom, sorry.
-/
import Derived.Test.YtipigcgegmedeaaGreatChecked
import GoSem.Claim
import GoSem.ClaimJoined
import GoSem.ClaimMapViews
import Derived.JoinedTies
import Derived.KernelRfl
namespace Go.Proofs.YtipigcgegmedeaaGreat
/- THE CELL 'sum', in the pinned program and in every row, IS THE sha256 OF THE DUMP (.gsa) THAT YtipigcgegmedeaaGreatProg.lean LOADS. Nothing in Lean hashes anything: it is a label: what it is worth is what the hold of that sum in a sandbox is worth. -/
noncomputable def Tryz.pinned : Pinned := { name := "ytipigcgegmedeaagreat", sum := "93f3feae599c3f2c8d3499d5b71b98852340c802d7887f5f1c2428f44b0e2eca", checked := Tryz.checked }
namespace Rows
def none {H : Type} : Left H := { results := [], args := [] }

/-- 'posternlaw21.XsixSums': WHATEVER THE INPUT: true; the input reads as it did. -/
def xsixSumsSpec : ChangeSpec := { name := "xsixSums", fn := fun _ => fun
  | [d1, d2, d3] => { results := [.lit (.bool true)], args := [d1, d2, d3] }
  | _ => none }
def xsixSumsRow : OpenClaim := { program := "ytipigcgegmedeaagreat", sum := "93f3feae599c3f2c8d3499d5b71b98852340c802d7887f5f1c2428f44b0e2eca", func := "postern/posternlaw21.XsixSums", spec := "xsixSums", inPlace := ["math/bits.Add64"], unfollowed := true, recurses := true, named := ["math/bits.divideError", "math/bits.overflowError"], apart := false }
def XsixSumsSaid : Prop := xsixSumsRow.holds Tryz.pinned (OpenSpec.ofChange xsixSumsSpec)

/-- ITS FALSE NEIGHBOUR: 'it returns false'. Refute it at one input. -/
def xsixSumsWrong : ChangeSpec := { name := "xsixSums", fn := fun _ => fun
  | [d1, d2, d3] => { results := [.lit (.bool false)], args := [d1, d2, d3] }
  | _ => none }
def XsixSumsWrongFalsely : Prop := xsixSumsRow.holds Tryz.pinned (OpenSpec.ofChange xsixSumsWrong)

/-- 'posternlaw21.XsixStacks': WHATEVER THE INPUT: true; the input reads as it did. -/
def xsixStacksSpec : ChangeSpec := { name := "xsixStacks", fn := fun _ => fun
  | [d] => { results := [.lit (.bool true)], args := [d] }
  | _ => none }
def xsixStacksRow : OpenClaim := { program := "ytipigcgegmedeaagreat", sum := "93f3feae599c3f2c8d3499d5b71b98852340c802d7887f5f1c2428f44b0e2eca", func := "postern/posternlaw21.XsixStacks", spec := "xsixStacks", inPlace := ["math/bits.Add64"], unfollowed := true, recurses := true, named := ["math/bits.divideError", "math/bits.overflowError"], apart := false }
def XsixStacksSaid : Prop := xsixStacksRow.holds Tryz.pinned (OpenSpec.ofChange xsixStacksSpec)

/-- ITS FALSE NEIGHBOUR: 'it returns false'. Refute it at one input. -/
def xsixStacksWrong : ChangeSpec := { name := "xsixStacks", fn := fun _ => fun
  | [d] => { results := [.lit (.bool false)], args := [d] }
  | _ => none }
def XsixStacksWrongFalsely : Prop := xsixStacksRow.holds Tryz.pinned (OpenSpec.ofChange xsixStacksWrong)

/-- 'posternlaw21.XsixDivides': WHATEVER THE INPUT: true; the input reads as it did. -/
def xsixDividesSpec : ChangeSpec := { name := "xsixDivides", fn := fun _ => fun
  | [d1, d2, d3] => { results := [.lit (.bool true)], args := [d1, d2, d3] }
  | _ => none }
def xsixDividesRow : OpenClaim := { program := "ytipigcgegmedeaagreat", sum := "93f3feae599c3f2c8d3499d5b71b98852340c802d7887f5f1c2428f44b0e2eca", func := "postern/posternlaw21.XsixDivides", spec := "xsixDivides", inPlace := ["math/bits.Add64"], unfollowed := true, recurses := true, named := ["math/bits.divideError", "math/bits.overflowError"], apart := false }
def XsixDividesSaid : Prop := xsixDividesRow.holds Tryz.pinned (OpenSpec.ofChange xsixDividesSpec)

/-- ITS FALSE NEIGHBOUR: 'it returns false'. Refute it at one input. -/
def xsixDividesWrong : ChangeSpec := { name := "xsixDivides", fn := fun _ => fun
  | [d1, d2, d3] => { results := [.lit (.bool false)], args := [d1, d2, d3] }
  | _ => none }
def XsixDividesWrongFalsely : Prop := xsixDividesRow.holds Tryz.pinned (OpenSpec.ofChange xsixDividesWrong)

/-- 'posternlaw21.XsixConds': WHATEVER THE INPUT: true; the input reads as it did. -/
def xsixCondsSpec : ChangeSpec := { name := "xsixConds", fn := fun _ => fun
  | [d1, d2, d3] => { results := [.lit (.bool true)], args := [d1, d2, d3] }
  | _ => none }
def xsixCondsRow : OpenClaim := { program := "ytipigcgegmedeaagreat", sum := "93f3feae599c3f2c8d3499d5b71b98852340c802d7887f5f1c2428f44b0e2eca", func := "postern/posternlaw21.XsixConds", spec := "xsixConds", inPlace := ["math/bits.Add64"], unfollowed := true, recurses := true, named := ["math/bits.divideError", "math/bits.overflowError"], apart := false }
def XsixCondsSaid : Prop := xsixCondsRow.holds Tryz.pinned (OpenSpec.ofChange xsixCondsSpec)

/-- ITS FALSE NEIGHBOUR: 'it returns false'. Refute it at one input. -/
def xsixCondsWrong : ChangeSpec := { name := "xsixConds", fn := fun _ => fun
  | [d1, d2, d3] => { results := [.lit (.bool false)], args := [d1, d2, d3] }
  | _ => none }
def XsixCondsWrongFalsely : Prop := xsixCondsRow.holds Tryz.pinned (OpenSpec.ofChange xsixCondsWrong)

/- THE SECOND FORM. 'bulk': how many values and letters a reading holds, each counted each time it is reached (what is shared counts as often as it is met; a slice's spare places count too). A statement '..UptoSaid' is the law's where the arguments, and the package variables that the reading takes, are together of bulk at most 1048576: NARROWER than '..Said'. Prove '..Said' where nothing that the law and all that it calls make is longer than what came in: it says more and counts as full. Else prove '..UptoSaid'. A law counts once. -/
mutual
def uptoBulk {H : Type} : DataW H → Nat
  | .lit (.string bytes) => bytes.length + 1
  | .lit _ => 1
  | .nil => 1
  | .ptr d => uptoBulk d + 1
  | .slice elems spare => uptoBulkAll elems + uptoBulkAll spare + 1
  | .agg parts => uptoBulkAll parts + 1
  | .iface _ d => uptoBulk d + 1
  | .map entries => uptoBulkEntries entries + 1
  | .held _ => 1
def uptoBulkAll {H : Type} : List (DataW H) → Nat
  | [] => 0
  | d :: r => uptoBulk d + uptoBulkAll r
def uptoBulkEntries {H : Type} : List (Lit × DataW H) → Nat
  | [] => 0
  | x :: r => uptoBulkEntry x + uptoBulkEntries r
def uptoBulkEntry {H : Type} : Lit × DataW H → Nat
  | (.string bytes, d) => bytes.length + uptoBulk d + 1
  | (_, d) => uptoBulk d + 1
 end
def uptoSmall : (H : Type) → List (DataW H) → Bool := fun _ ds => decide (uptoBulkAll ds ≤ 1048576)
def OpenSpec.upto (s : _root_.Go.ChangeSpec) : _root_.Go.OpenSpec := { _root_.Go.OpenSpec.ofChange s with cond := some uptoSmall }

/-- 'posternlaw21.XsixSums', WHERE WHAT IT READS IS OF BULK AT MOST 1048576: true; the input reads as it did. -/
def xsixSumsUptoRow : OpenClaim := { program := "ytipigcgegmedeaagreat", sum := "93f3feae599c3f2c8d3499d5b71b98852340c802d7887f5f1c2428f44b0e2eca", func := "postern/posternlaw21.XsixSums", spec := "xsixSums", inPlace := ["math/bits.Add64"], unfollowed := true, recurses := true, named := ["math/bits.divideError", "math/bits.overflowError"], apart := false, narrowed := true }
def XsixSumsUptoSaid : Prop := xsixSumsUptoRow.holds Tryz.pinned (OpenSpec.upto xsixSumsSpec)

/-- 'posternlaw21.XsixStacks', WHERE WHAT IT READS IS OF BULK AT MOST 1048576: true; the input reads as it did. -/
def xsixStacksUptoRow : OpenClaim := { program := "ytipigcgegmedeaagreat", sum := "93f3feae599c3f2c8d3499d5b71b98852340c802d7887f5f1c2428f44b0e2eca", func := "postern/posternlaw21.XsixStacks", spec := "xsixStacks", inPlace := ["math/bits.Add64"], unfollowed := true, recurses := true, named := ["math/bits.divideError", "math/bits.overflowError"], apart := false, narrowed := true }
def XsixStacksUptoSaid : Prop := xsixStacksUptoRow.holds Tryz.pinned (OpenSpec.upto xsixStacksSpec)

/-- 'posternlaw21.XsixDivides', WHERE WHAT IT READS IS OF BULK AT MOST 1048576: true; the input reads as it did. -/
def xsixDividesUptoRow : OpenClaim := { program := "ytipigcgegmedeaagreat", sum := "93f3feae599c3f2c8d3499d5b71b98852340c802d7887f5f1c2428f44b0e2eca", func := "postern/posternlaw21.XsixDivides", spec := "xsixDivides", inPlace := ["math/bits.Add64"], unfollowed := true, recurses := true, named := ["math/bits.divideError", "math/bits.overflowError"], apart := false, narrowed := true }
def XsixDividesUptoSaid : Prop := xsixDividesUptoRow.holds Tryz.pinned (OpenSpec.upto xsixDividesSpec)

/-- 'posternlaw21.XsixConds', WHERE WHAT IT READS IS OF BULK AT MOST 1048576: true; the input reads as it did. -/
def xsixCondsUptoRow : OpenClaim := { program := "ytipigcgegmedeaagreat", sum := "93f3feae599c3f2c8d3499d5b71b98852340c802d7887f5f1c2428f44b0e2eca", func := "postern/posternlaw21.XsixConds", spec := "xsixConds", inPlace := ["math/bits.Add64"], unfollowed := true, recurses := true, named := ["math/bits.divideError", "math/bits.overflowError"], apart := false, narrowed := true }
def XsixCondsUptoSaid : Prop := xsixCondsUptoRow.holds Tryz.pinned (OpenSpec.upto xsixCondsSpec)

end Rows
end Go.Proofs.YtipigcgegmedeaaGreat
