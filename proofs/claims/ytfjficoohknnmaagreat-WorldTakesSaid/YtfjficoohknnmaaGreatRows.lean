/-
  No cell of these rows narrows 'for every input' (looked for: loops, veiled, ifaces, maps, wideKeys, modest, calm, conditions, laid).
  DERIVED. THE GIVEN ROWS OF THIS SEAT. 4 by the template 'for every input the law returns true; each argument reads behind the call as it read before'; 0 by the template 'total and deterministic' (their statements: YtfjficoohknnmaaGreatTotals.lean).
  GIVEN WITH THE SEED: the statements are not yours to turn. If you find one false, say at which input.
  Laid BY PROGRAM, IN A SANDBOX (cutbox-rows.mjs): the forced cells as the released guide's own fill.sh prints them over the translation 30e784606edd8767… (all of the seat's roots in one cut). By AI agents, Wed Nov 11 2026. No macro, syntax, notation, axiom, sorry.
-/
import Derived.Test.YtfjficoohknnmaaGreatChecked
import GoSem.Claim
import GoSem.ClaimJoined
import GoSem.ClaimMapViews
import Derived.JoinedTies
import Derived.KernelRfl
namespace Go.Proofs.YtfjficoohknnmaaGreat
/- THE CELL 'sum', in the pinned program and in every row, IS THE sha256 OF THE DUMP (.gsa) THAT YtfjficoohknnmaaGreatProg.lean LOADS. Nothing in Lean hashes anything: it is a label: what it is worth is what the hold of that sum in a sandbox is worth. -/
noncomputable def Tryz.pinned : Pinned := { name := "ytfjficoohknnmaagreat", sum := "30e784606edd87677a97424126a717681ba4c5eda5fb3034efed778113385091", checked := Tryz.checked }
namespace Rows
def none {H : Type} : Left H := { results := [], args := [] }

/-- 'posternlaw12.WorldMoves': WHATEVER THE INPUT: true; the input reads as it did. -/
def worldMovesSpec : ChangeSpec := { name := "worldMoves", fn := fun _ => fun
  | [d1, d2, d3] => { results := [.lit (.bool true)], args := [d1, d2, d3] }
  | _ => none }
def worldMovesRow : OpenClaim := { program := "ytfjficoohknnmaagreat", sum := "30e784606edd87677a97424126a717681ba4c5eda5fb3034efed778113385091", func := "postern/posternlaw12.WorldMoves", spec := "worldMoves", unfollowed := true, recurses := true, apart := false }
def WorldMovesSaid : Prop := worldMovesRow.holds Tryz.pinned (OpenSpec.ofChange worldMovesSpec)

/-- ITS FALSE NEIGHBOUR: 'it returns false'. Refute it at one input. -/
def worldMovesWrong : ChangeSpec := { name := "worldMoves", fn := fun _ => fun
  | [d1, d2, d3] => { results := [.lit (.bool false)], args := [d1, d2, d3] }
  | _ => none }
def WorldMovesWrongFalsely : Prop := worldMovesRow.holds Tryz.pinned (OpenSpec.ofChange worldMovesWrong)

/-- 'posternlaw12.WorldTapes': WHATEVER THE INPUT: true; the input reads as it did. -/
def worldTapesSpec : ChangeSpec := { name := "worldTapes", fn := fun _ => fun
  | [d1, d2] => { results := [.lit (.bool true)], args := [d1, d2] }
  | _ => none }
def worldTapesRow : OpenClaim := { program := "ytfjficoohknnmaagreat", sum := "30e784606edd87677a97424126a717681ba4c5eda5fb3034efed778113385091", func := "postern/posternlaw12.WorldTapes", spec := "worldTapes", unfollowed := true, recurses := true, apart := false }
def WorldTapesSaid : Prop := worldTapesRow.holds Tryz.pinned (OpenSpec.ofChange worldTapesSpec)

/-- ITS FALSE NEIGHBOUR: 'it returns false'. Refute it at one input. -/
def worldTapesWrong : ChangeSpec := { name := "worldTapes", fn := fun _ => fun
  | [d1, d2] => { results := [.lit (.bool false)], args := [d1, d2] }
  | _ => none }
def WorldTapesWrongFalsely : Prop := worldTapesRow.holds Tryz.pinned (OpenSpec.ofChange worldTapesWrong)

/-- 'posternlaw12.WorldHooks': WHATEVER THE INPUT: true; the input reads as it did. -/
def worldHooksSpec : ChangeSpec := { name := "worldHooks", fn := fun _ => fun
  | [d1, d2, d3] => { results := [.lit (.bool true)], args := [d1, d2, d3] }
  | _ => none }
def worldHooksRow : OpenClaim := { program := "ytfjficoohknnmaagreat", sum := "30e784606edd87677a97424126a717681ba4c5eda5fb3034efed778113385091", func := "postern/posternlaw12.WorldHooks", spec := "worldHooks", unfollowed := true, recurses := true, apart := false }
def WorldHooksSaid : Prop := worldHooksRow.holds Tryz.pinned (OpenSpec.ofChange worldHooksSpec)

/-- ITS FALSE NEIGHBOUR: 'it returns false'. Refute it at one input. -/
def worldHooksWrong : ChangeSpec := { name := "worldHooks", fn := fun _ => fun
  | [d1, d2, d3] => { results := [.lit (.bool false)], args := [d1, d2, d3] }
  | _ => none }
def WorldHooksWrongFalsely : Prop := worldHooksRow.holds Tryz.pinned (OpenSpec.ofChange worldHooksWrong)

/-- 'posternlaw12.WorldTakes': WHATEVER THE INPUT: true; the input reads as it did. -/
def worldTakesSpec : ChangeSpec := { name := "worldTakes", fn := fun _ => fun
  | [d1, d2] => { results := [.lit (.bool true)], args := [d1, d2] }
  | _ => none }
def worldTakesRow : OpenClaim := { program := "ytfjficoohknnmaagreat", sum := "30e784606edd87677a97424126a717681ba4c5eda5fb3034efed778113385091", func := "postern/posternlaw12.WorldTakes", spec := "worldTakes", unfollowed := true, recurses := true, apart := false }
def WorldTakesSaid : Prop := worldTakesRow.holds Tryz.pinned (OpenSpec.ofChange worldTakesSpec)

/-- ITS FALSE NEIGHBOUR: 'it returns false'. Refute it at one input. -/
def worldTakesWrong : ChangeSpec := { name := "worldTakes", fn := fun _ => fun
  | [d1, d2] => { results := [.lit (.bool false)], args := [d1, d2] }
  | _ => none }
def WorldTakesWrongFalsely : Prop := worldTakesRow.holds Tryz.pinned (OpenSpec.ofChange worldTakesWrong)

/- THE SECOND FORM. 'bulk': how many values and letters a reading holds, each counted each time it is reached (what is shared counts as often as it is met; a slice's spare places count too). A statement '..UptoSaid' is the law's where the arguments, and the package variables that the reading takes, are together of bulk at most 1048576: NARROWER than '..Said'. Prove '..Said' where nothing that the law and all that it calls make is longer than what came in: it says more and counts as full. Else prove '..UptoSaid'. A law counts once. -/
mutual
def uptoBulk {H : Type} : DataW H → Nat
  | .lit (.string bytes) => bytes.length + 1
  | .lit _ => 1
  | .nil => 1
  | .ptr d => uptoBulk d + 1
  | .slice elems spare => uptoBulkAll elems + uptoBulkAll spare + 1
  | .agg parts => uptoBulkAll parts + 1
  | .iface _ d => uptoBulk d + 1
  | .map entries => uptoBulkEntries entries + 1
  | .held _ => 1
def uptoBulkAll {H : Type} : List (DataW H) → Nat
  | [] => 0
  | d :: r => uptoBulk d + uptoBulkAll r
def uptoBulkEntries {H : Type} : List (Lit × DataW H) → Nat
  | [] => 0
  | x :: r => uptoBulkEntry x + uptoBulkEntries r
def uptoBulkEntry {H : Type} : Lit × DataW H → Nat
  | (.string bytes, d) => bytes.length + uptoBulk d + 1
  | (_, d) => uptoBulk d + 1
 end
def uptoSmall : (H : Type) → List (DataW H) → Bool := fun _ ds => decide (uptoBulkAll ds ≤ 1048576)
def OpenSpec.upto (s : _root_.Go.ChangeSpec) : _root_.Go.OpenSpec := { _root_.Go.OpenSpec.ofChange s with cond := some uptoSmall }

/-- 'posternlaw12.WorldMoves', WHERE WHAT IT READS IS OF BULK AT MOST 1048576: true; the input reads as it did. -/
def worldMovesUptoRow : OpenClaim := { program := "ytfjficoohknnmaagreat", sum := "30e784606edd87677a97424126a717681ba4c5eda5fb3034efed778113385091", func := "postern/posternlaw12.WorldMoves", spec := "worldMoves", unfollowed := true, recurses := true, apart := false, narrowed := true }
def WorldMovesUptoSaid : Prop := worldMovesUptoRow.holds Tryz.pinned (OpenSpec.upto worldMovesSpec)

/-- 'posternlaw12.WorldTapes', WHERE WHAT IT READS IS OF BULK AT MOST 1048576: true; the input reads as it did. -/
def worldTapesUptoRow : OpenClaim := { program := "ytfjficoohknnmaagreat", sum := "30e784606edd87677a97424126a717681ba4c5eda5fb3034efed778113385091", func := "postern/posternlaw12.WorldTapes", spec := "worldTapes", unfollowed := true, recurses := true, apart := false, narrowed := true }
def WorldTapesUptoSaid : Prop := worldTapesUptoRow.holds Tryz.pinned (OpenSpec.upto worldTapesSpec)

/-- 'posternlaw12.WorldHooks', WHERE WHAT IT READS IS OF BULK AT MOST 1048576: true; the input reads as it did. -/
def worldHooksUptoRow : OpenClaim := { program := "ytfjficoohknnmaagreat", sum := "30e784606edd87677a97424126a717681ba4c5eda5fb3034efed778113385091", func := "postern/posternlaw12.WorldHooks", spec := "worldHooks", unfollowed := true, recurses := true, apart := false, narrowed := true }
def WorldHooksUptoSaid : Prop := worldHooksUptoRow.holds Tryz.pinned (OpenSpec.upto worldHooksSpec)

/-- 'posternlaw12.WorldTakes', WHERE WHAT IT READS IS OF BULK AT MOST 1048576: true; the input reads as it did. -/
def worldTakesUptoRow : OpenClaim := { program := "ytfjficoohknnmaagreat", sum := "30e784606edd87677a97424126a717681ba4c5eda5fb3034efed778113385091", func := "postern/posternlaw12.WorldTakes", spec := "worldTakes", unfollowed := true, recurses := true, apart := false, narrowed := true }
def WorldTakesUptoSaid : Prop := worldTakesUptoRow.holds Tryz.pinned (OpenSpec.upto worldTakesSpec)

end Rows
end Go.Proofs.YtfjficoohknnmaaGreat
