/-
  NARROWER THAN 'FOR EVERY INPUT', by the rows' own cells (each row's printed sentence says how): ArmCodes: laid · ArmWords: laid · ArmNumbers: laid · ArmDivides: laid · ArmNil: laid · ArmRuns: laid.
  DERIVED. THE GIVEN ROWS OF THIS SEAT. 6 by the template 'for every input the law returns true; each argument reads behind the call as it read before'; 0 by the template 'total and deterministic' (their statements: YtbepakbjinhjcaaGreatDoorTotals.lean).
  GIVEN WITH THE SEED: the statements are not yours to turn. If you find one false, say at which input.
  Laid BY PROGRAM, IN A SANDBOX (cutbox-rows.mjs): the forced cells as the released guide's own fill.sh prints them over the translation 903d18b9b106c423… (all of the seat's roots in one cut). By AI agents, Wed Nov 11 2026. No macro, syntax, notation, axiom, sorry.
-/
import Derived.Test.YtbepakbjinhjcaaGreatDoorChecked
import GoSem.Claim
import GoSem.ClaimJoined
import GoSem.ClaimMapViews
import Derived.JoinedTies
import Derived.KernelRfl
namespace Go.Proofs.YtbepakbjinhjcaaGreatDoor
/- THE CELL 'sum', in the pinned program and in every row, IS THE sha256 OF THE DUMP (.gsa) THAT YtbepakbjinhjcaaGreatDoorProg.lean LOADS. Nothing in Lean hashes anything: it is a label: what it is worth is what the hold of that sum in a sandbox is worth. -/
noncomputable def Tryz.pinned : Pinned := { name := "ytbepakbjinhjcaagreatdoor", sum := "903d18b9b106c423f45483ae0a1f419abf94a35ca0d5bbdb6662b1a941414a4f", checked := Tryz.checked }
namespace Rows
def none {H : Type} : Left H := { results := [], args := [] }

/- WHAT THE LISTED PACKAGE-LEVEL VARIABLES READ AS WHEN THE CALL BEGINS. Each datum BY PROGRAM (the guide's laid-datum.mjs) off the statement by which the dump's own 'gosem.cut.vars' lays the variable. In a bare row this is a premise. The card (YtbepakbjinhjcaaGreatDoorCards.lean) ties it to the program's text. -/
def laid_math_bits_deBruijn32tab {H : Type} : DataW H := .agg [.lit (.int .u8 0), .lit (.int .u8 1), .lit (.int .u8 28), .lit (.int .u8 2), .lit (.int .u8 29), .lit (.int .u8 14), .lit (.int .u8 24), .lit (.int .u8 3), .lit (.int .u8 30), .lit (.int .u8 22), .lit (.int .u8 20), .lit (.int .u8 15), .lit (.int .u8 25), .lit (.int .u8 17), .lit (.int .u8 4), .lit (.int .u8 8), .lit (.int .u8 31), .lit (.int .u8 27), .lit (.int .u8 13), .lit (.int .u8 23), .lit (.int .u8 21), .lit (.int .u8 19), .lit (.int .u8 16), .lit (.int .u8 7), .lit (.int .u8 26), .lit (.int .u8 12), .lit (.int .u8 18), .lit (.int .u8 6), .lit (.int .u8 11), .lit (.int .u8 5), .lit (.int .u8 10), .lit (.int .u8 9)]
def laid_math_bits_deBruijn64tab {H : Type} : DataW H := .agg [.lit (.int .u8 0), .lit (.int .u8 1), .lit (.int .u8 56), .lit (.int .u8 2), .lit (.int .u8 57), .lit (.int .u8 49), .lit (.int .u8 28), .lit (.int .u8 3), .lit (.int .u8 61), .lit (.int .u8 58), .lit (.int .u8 42), .lit (.int .u8 50), .lit (.int .u8 38), .lit (.int .u8 29), .lit (.int .u8 17), .lit (.int .u8 4), .lit (.int .u8 62), .lit (.int .u8 47), .lit (.int .u8 59), .lit (.int .u8 36), .lit (.int .u8 45), .lit (.int .u8 43), .lit (.int .u8 51), .lit (.int .u8 22), .lit (.int .u8 53), .lit (.int .u8 39), .lit (.int .u8 33), .lit (.int .u8 30), .lit (.int .u8 24), .lit (.int .u8 18), .lit (.int .u8 12), .lit (.int .u8 5), .lit (.int .u8 63), .lit (.int .u8 55), .lit (.int .u8 48), .lit (.int .u8 27), .lit (.int .u8 60), .lit (.int .u8 41), .lit (.int .u8 37), .lit (.int .u8 16), .lit (.int .u8 46), .lit (.int .u8 35), .lit (.int .u8 44), .lit (.int .u8 21), .lit (.int .u8 52), .lit (.int .u8 32), .lit (.int .u8 23), .lit (.int .u8 11), .lit (.int .u8 54), .lit (.int .u8 26), .lit (.int .u8 40), .lit (.int .u8 15), .lit (.int .u8 34), .lit (.int .u8 20), .lit (.int .u8 31), .lit (.int .u8 10), .lit (.int .u8 25), .lit (.int .u8 14), .lit (.int .u8 19), .lit (.int .u8 9), .lit (.int .u8 13), .lit (.int .u8 8), .lit (.int .u8 7), .lit (.int .u8 6)]

/-- 'posternlaw23.ArmCodes': WHATEVER THE INPUT: true; the input reads as it did. -/
def armCodesSpec : ChangeSpec := { name := "armCodes", fn := fun _ => fun
  | [d] => { results := [.lit (.bool true)], args := [d] }
  | _ => none }
def armCodesRow : OpenClaim := { program := "ytbepakbjinhjcaagreatdoor", sum := "903d18b9b106c423f45483ae0a1f419abf94a35ca0d5bbdb6662b1a941414a4f", func := "postern/posternlaw23.ArmCodes", spec := "armCodes", unfollowed := true, recurses := true, named := ["math/bits.deBruijn32tab", "math/bits.deBruijn64tab"], apart := false, laid := [("math/bits.deBruijn32tab", laid_math_bits_deBruijn32tab), ("math/bits.deBruijn64tab", laid_math_bits_deBruijn64tab)] }
def ArmCodesSaid : Prop := armCodesRow.holds Tryz.pinned (OpenSpec.ofChange armCodesSpec)

/-- ITS FALSE NEIGHBOUR: 'it returns false'. Refute it at one input. -/
def armCodesWrong : ChangeSpec := { name := "armCodes", fn := fun _ => fun
  | [d] => { results := [.lit (.bool false)], args := [d] }
  | _ => none }
def ArmCodesWrongFalsely : Prop := armCodesRow.holds Tryz.pinned (OpenSpec.ofChange armCodesWrong)

/-- 'posternlaw23.ArmWords': WHATEVER THE INPUT: true; the input reads as it did. -/
def armWordsSpec : ChangeSpec := { name := "armWords", fn := fun _ => fun
  | [d] => { results := [.lit (.bool true)], args := [d] }
  | _ => none }
def armWordsRow : OpenClaim := { program := "ytbepakbjinhjcaagreatdoor", sum := "903d18b9b106c423f45483ae0a1f419abf94a35ca0d5bbdb6662b1a941414a4f", func := "postern/posternlaw23.ArmWords", spec := "armWords", unfollowed := true, recurses := true, named := ["math/bits.deBruijn32tab", "math/bits.deBruijn64tab"], apart := false, laid := [("math/bits.deBruijn32tab", laid_math_bits_deBruijn32tab), ("math/bits.deBruijn64tab", laid_math_bits_deBruijn64tab)] }
def ArmWordsSaid : Prop := armWordsRow.holds Tryz.pinned (OpenSpec.ofChange armWordsSpec)

/-- ITS FALSE NEIGHBOUR: 'it returns false'. Refute it at one input. -/
def armWordsWrong : ChangeSpec := { name := "armWords", fn := fun _ => fun
  | [d] => { results := [.lit (.bool false)], args := [d] }
  | _ => none }
def ArmWordsWrongFalsely : Prop := armWordsRow.holds Tryz.pinned (OpenSpec.ofChange armWordsWrong)

/-- 'posternlaw23.ArmNumbers': WHATEVER THE INPUT: true; the input reads as it did. -/
def armNumbersSpec : ChangeSpec := { name := "armNumbers", fn := fun _ => fun
  | [d1, d2, d3] => { results := [.lit (.bool true)], args := [d1, d2, d3] }
  | _ => none }
def armNumbersRow : OpenClaim := { program := "ytbepakbjinhjcaagreatdoor", sum := "903d18b9b106c423f45483ae0a1f419abf94a35ca0d5bbdb6662b1a941414a4f", func := "postern/posternlaw23.ArmNumbers", spec := "armNumbers", unfollowed := true, recurses := true, named := ["math/bits.deBruijn32tab", "math/bits.deBruijn64tab"], apart := false, laid := [("math/bits.deBruijn32tab", laid_math_bits_deBruijn32tab), ("math/bits.deBruijn64tab", laid_math_bits_deBruijn64tab)] }
def ArmNumbersSaid : Prop := armNumbersRow.holds Tryz.pinned (OpenSpec.ofChange armNumbersSpec)

/-- ITS FALSE NEIGHBOUR: 'it returns false'. Refute it at one input. -/
def armNumbersWrong : ChangeSpec := { name := "armNumbers", fn := fun _ => fun
  | [d1, d2, d3] => { results := [.lit (.bool false)], args := [d1, d2, d3] }
  | _ => none }
def ArmNumbersWrongFalsely : Prop := armNumbersRow.holds Tryz.pinned (OpenSpec.ofChange armNumbersWrong)

/-- 'posternlaw23.ArmDivides': WHATEVER THE INPUT: true; the input reads as it did. -/
def armDividesSpec : ChangeSpec := { name := "armDivides", fn := fun _ => fun
  | [d1, d2, d3] => { results := [.lit (.bool true)], args := [d1, d2, d3] }
  | _ => none }
def armDividesRow : OpenClaim := { program := "ytbepakbjinhjcaagreatdoor", sum := "903d18b9b106c423f45483ae0a1f419abf94a35ca0d5bbdb6662b1a941414a4f", func := "postern/posternlaw23.ArmDivides", spec := "armDivides", unfollowed := true, recurses := true, named := ["math/bits.deBruijn32tab", "math/bits.deBruijn64tab"], apart := false, laid := [("math/bits.deBruijn32tab", laid_math_bits_deBruijn32tab), ("math/bits.deBruijn64tab", laid_math_bits_deBruijn64tab)] }
def ArmDividesSaid : Prop := armDividesRow.holds Tryz.pinned (OpenSpec.ofChange armDividesSpec)

/-- ITS FALSE NEIGHBOUR: 'it returns false'. Refute it at one input. -/
def armDividesWrong : ChangeSpec := { name := "armDivides", fn := fun _ => fun
  | [d1, d2, d3] => { results := [.lit (.bool false)], args := [d1, d2, d3] }
  | _ => none }
def ArmDividesWrongFalsely : Prop := armDividesRow.holds Tryz.pinned (OpenSpec.ofChange armDividesWrong)

/-- 'posternlaw23.ArmNil': WHATEVER THE INPUT: true; the input reads as it did. -/
def armNilSpec : ChangeSpec := { name := "armNil", fn := fun _ => fun
  | [d1, d2] => { results := [.lit (.bool true)], args := [d1, d2] }
  | _ => none }
def armNilRow : OpenClaim := { program := "ytbepakbjinhjcaagreatdoor", sum := "903d18b9b106c423f45483ae0a1f419abf94a35ca0d5bbdb6662b1a941414a4f", func := "postern/posternlaw23.ArmNil", spec := "armNil", unfollowed := true, recurses := true, named := ["math/bits.deBruijn32tab", "math/bits.deBruijn64tab"], apart := false, laid := [("math/bits.deBruijn32tab", laid_math_bits_deBruijn32tab), ("math/bits.deBruijn64tab", laid_math_bits_deBruijn64tab)] }
def ArmNilSaid : Prop := armNilRow.holds Tryz.pinned (OpenSpec.ofChange armNilSpec)

/-- ITS FALSE NEIGHBOUR: 'it returns false'. Refute it at one input. -/
def armNilWrong : ChangeSpec := { name := "armNil", fn := fun _ => fun
  | [d1, d2] => { results := [.lit (.bool false)], args := [d1, d2] }
  | _ => none }
def ArmNilWrongFalsely : Prop := armNilRow.holds Tryz.pinned (OpenSpec.ofChange armNilWrong)

/-- 'posternlaw23.ArmRuns': WHATEVER THE INPUT: true; the input reads as it did. -/
def armRunsSpec : ChangeSpec := { name := "armRuns", fn := fun _ => fun
  | [d1, d2] => { results := [.lit (.bool true)], args := [d1, d2] }
  | _ => none }
def armRunsRow : OpenClaim := { program := "ytbepakbjinhjcaagreatdoor", sum := "903d18b9b106c423f45483ae0a1f419abf94a35ca0d5bbdb6662b1a941414a4f", func := "postern/posternlaw23.ArmRuns", spec := "armRuns", inPlace := ["maps.clone"], unfollowed := true, recurses := true, named := ["math/bits.deBruijn32tab", "math/bits.deBruijn64tab"], apart := false, laid := [("math/bits.deBruijn32tab", laid_math_bits_deBruijn32tab), ("math/bits.deBruijn64tab", laid_math_bits_deBruijn64tab)] }
def ArmRunsSaid : Prop := armRunsRow.holds Tryz.pinned (OpenSpec.ofChange armRunsSpec)

/-- ITS FALSE NEIGHBOUR: 'it returns false'. Refute it at one input. -/
def armRunsWrong : ChangeSpec := { name := "armRuns", fn := fun _ => fun
  | [d1, d2] => { results := [.lit (.bool false)], args := [d1, d2] }
  | _ => none }
def ArmRunsWrongFalsely : Prop := armRunsRow.holds Tryz.pinned (OpenSpec.ofChange armRunsWrong)

/- THE SECOND FORM. 'bulk': how many values and letters a reading holds, each counted each time it is reached (what is shared counts as often as it is met; a slice's spare places count too). A statement '..UptoSaid' is the law's where the arguments, and the package variables that the reading takes, are together of bulk at most 1048576: NARROWER than '..Said'. Prove '..Said' where nothing that the law and all that it calls make is longer than what came in: it says more and counts as full. Else prove '..UptoSaid'. A law counts once. -/
mutual
def uptoBulk {H : Type} : DataW H → Nat
  | .lit (.string bytes) => bytes.length + 1
  | .lit _ => 1
  | .nil => 1
  | .ptr d => uptoBulk d + 1
  | .slice elems spare => uptoBulkAll elems + uptoBulkAll spare + 1
  | .agg parts => uptoBulkAll parts + 1
  | .iface _ d => uptoBulk d + 1
  | .map entries => uptoBulkEntries entries + 1
  | .held _ => 1
def uptoBulkAll {H : Type} : List (DataW H) → Nat
  | [] => 0
  | d :: r => uptoBulk d + uptoBulkAll r
def uptoBulkEntries {H : Type} : List (Lit × DataW H) → Nat
  | [] => 0
  | x :: r => uptoBulkEntry x + uptoBulkEntries r
def uptoBulkEntry {H : Type} : Lit × DataW H → Nat
  | (.string bytes, d) => bytes.length + uptoBulk d + 1
  | (_, d) => uptoBulk d + 1
 end
def uptoSmall : (H : Type) → List (DataW H) → Bool := fun _ ds => decide (uptoBulkAll ds ≤ 1048576)
def OpenSpec.upto (s : _root_.Go.ChangeSpec) : _root_.Go.OpenSpec := { _root_.Go.OpenSpec.ofChange s with cond := some uptoSmall }

/-- 'posternlaw23.ArmCodes', WHERE WHAT IT READS IS OF BULK AT MOST 1048576: true; the input reads as it did. -/
def armCodesUptoRow : OpenClaim := { program := "ytbepakbjinhjcaagreatdoor", sum := "903d18b9b106c423f45483ae0a1f419abf94a35ca0d5bbdb6662b1a941414a4f", func := "postern/posternlaw23.ArmCodes", spec := "armCodes", unfollowed := true, recurses := true, named := ["math/bits.deBruijn32tab", "math/bits.deBruijn64tab"], apart := false, laid := [("math/bits.deBruijn32tab", laid_math_bits_deBruijn32tab), ("math/bits.deBruijn64tab", laid_math_bits_deBruijn64tab)], narrowed := true }
def ArmCodesUptoSaid : Prop := armCodesUptoRow.holds Tryz.pinned (OpenSpec.upto armCodesSpec)

/-- 'posternlaw23.ArmWords', WHERE WHAT IT READS IS OF BULK AT MOST 1048576: true; the input reads as it did. -/
def armWordsUptoRow : OpenClaim := { program := "ytbepakbjinhjcaagreatdoor", sum := "903d18b9b106c423f45483ae0a1f419abf94a35ca0d5bbdb6662b1a941414a4f", func := "postern/posternlaw23.ArmWords", spec := "armWords", unfollowed := true, recurses := true, named := ["math/bits.deBruijn32tab", "math/bits.deBruijn64tab"], apart := false, laid := [("math/bits.deBruijn32tab", laid_math_bits_deBruijn32tab), ("math/bits.deBruijn64tab", laid_math_bits_deBruijn64tab)], narrowed := true }
def ArmWordsUptoSaid : Prop := armWordsUptoRow.holds Tryz.pinned (OpenSpec.upto armWordsSpec)

/-- 'posternlaw23.ArmNumbers', WHERE WHAT IT READS IS OF BULK AT MOST 1048576: true; the input reads as it did. -/
def armNumbersUptoRow : OpenClaim := { program := "ytbepakbjinhjcaagreatdoor", sum := "903d18b9b106c423f45483ae0a1f419abf94a35ca0d5bbdb6662b1a941414a4f", func := "postern/posternlaw23.ArmNumbers", spec := "armNumbers", unfollowed := true, recurses := true, named := ["math/bits.deBruijn32tab", "math/bits.deBruijn64tab"], apart := false, laid := [("math/bits.deBruijn32tab", laid_math_bits_deBruijn32tab), ("math/bits.deBruijn64tab", laid_math_bits_deBruijn64tab)], narrowed := true }
def ArmNumbersUptoSaid : Prop := armNumbersUptoRow.holds Tryz.pinned (OpenSpec.upto armNumbersSpec)

/-- 'posternlaw23.ArmDivides', WHERE WHAT IT READS IS OF BULK AT MOST 1048576: true; the input reads as it did. -/
def armDividesUptoRow : OpenClaim := { program := "ytbepakbjinhjcaagreatdoor", sum := "903d18b9b106c423f45483ae0a1f419abf94a35ca0d5bbdb6662b1a941414a4f", func := "postern/posternlaw23.ArmDivides", spec := "armDivides", unfollowed := true, recurses := true, named := ["math/bits.deBruijn32tab", "math/bits.deBruijn64tab"], apart := false, laid := [("math/bits.deBruijn32tab", laid_math_bits_deBruijn32tab), ("math/bits.deBruijn64tab", laid_math_bits_deBruijn64tab)], narrowed := true }
def ArmDividesUptoSaid : Prop := armDividesUptoRow.holds Tryz.pinned (OpenSpec.upto armDividesSpec)

/-- 'posternlaw23.ArmNil', WHERE WHAT IT READS IS OF BULK AT MOST 1048576: true; the input reads as it did. -/
def armNilUptoRow : OpenClaim := { program := "ytbepakbjinhjcaagreatdoor", sum := "903d18b9b106c423f45483ae0a1f419abf94a35ca0d5bbdb6662b1a941414a4f", func := "postern/posternlaw23.ArmNil", spec := "armNil", unfollowed := true, recurses := true, named := ["math/bits.deBruijn32tab", "math/bits.deBruijn64tab"], apart := false, laid := [("math/bits.deBruijn32tab", laid_math_bits_deBruijn32tab), ("math/bits.deBruijn64tab", laid_math_bits_deBruijn64tab)], narrowed := true }
def ArmNilUptoSaid : Prop := armNilUptoRow.holds Tryz.pinned (OpenSpec.upto armNilSpec)

/-- 'posternlaw23.ArmRuns', WHERE WHAT IT READS IS OF BULK AT MOST 1048576: true; the input reads as it did. -/
def armRunsUptoRow : OpenClaim := { program := "ytbepakbjinhjcaagreatdoor", sum := "903d18b9b106c423f45483ae0a1f419abf94a35ca0d5bbdb6662b1a941414a4f", func := "postern/posternlaw23.ArmRuns", spec := "armRuns", inPlace := ["maps.clone"], unfollowed := true, recurses := true, named := ["math/bits.deBruijn32tab", "math/bits.deBruijn64tab"], apart := false, laid := [("math/bits.deBruijn32tab", laid_math_bits_deBruijn32tab), ("math/bits.deBruijn64tab", laid_math_bits_deBruijn64tab)], narrowed := true }
def ArmRunsUptoSaid : Prop := armRunsUptoRow.holds Tryz.pinned (OpenSpec.upto armRunsSpec)

end Rows
end Go.Proofs.YtbepakbjinhjcaaGreatDoor
