/-
  No cell of these rows narrows 'for every input' (looked for: loops, veiled, ifaces, maps, wideKeys, modest, calm, conditions, laid).
  DERIVED. THE GIVEN ROWS OF THIS SEAT. 4 by the template 'for every input the law returns true; each argument reads behind the call as it read before'; 0 by the template 'total and deterministic' (their statements: YtmijlibnembkaaaTotals.lean).
  GIVEN WITH THE SEED: the statements are not yours to turn. If you find one false, say at which input.
  Laid BY PROGRAM, IN A SANDBOX (cutbox-rows.mjs): the forced cells as the released guide's own fill.sh prints them over the translation 154f2f5e603b255e… (all of the seat's roots in one cut). By AI agents, Wed Nov 11 2026. No macro, syntax, notation, axiom, sorry.
-/
import Derived.Test.YtmijlibnembkaaaChecked
import GoSem.Claim
import GoSem.ClaimJoined
import GoSem.ClaimMapViews
import Derived.JoinedTies
import Derived.KernelRfl
namespace Go.Proofs.Ytmijlibnembkaaa
/- THE CELL 'sum', in the pinned program and in every row, IS THE sha256 OF THE DUMP (.gsa) THAT YtmijlibnembkaaaProg.lean LOADS. Nothing in Lean hashes anything: it is a label: what it is worth is what the hold of that sum in a sandbox is worth. -/
noncomputable def Try.pinned : Pinned := { name := "ytmijlibnembkaaa", sum := "154f2f5e603b255e8906f751437525ec6f99fb6a69a4be7a088396b2f0acba8c", checked := Try.checked }
namespace Rows
def none {H : Type} : Left H := { results := [], args := [] }

/-- 'posternlaw18.PruneDrops': WHATEVER THE INPUT: true; the input reads as it did. -/
def pruneDropsSpec : ChangeSpec := { name := "pruneDrops", fn := fun _ => fun
  | [d1, d2] => { results := [.lit (.bool true)], args := [d1, d2] }
  | _ => none }
def pruneDropsRow : OpenClaim := { program := "ytmijlibnembkaaa", sum := "154f2f5e603b255e8906f751437525ec6f99fb6a69a4be7a088396b2f0acba8c", func := "postern/posternlaw18.PruneDrops", spec := "pruneDrops", inPlace := ["internal/bytealg.IndexByteString"], unfollowed := true, recurses := true, apart := false }
def PruneDropsSaid : Prop := pruneDropsRow.holds Try.pinned (OpenSpec.ofChange pruneDropsSpec)

/-- ITS FALSE NEIGHBOUR: 'it returns false'. Refute it at one input. -/
def pruneDropsWrong : ChangeSpec := { name := "pruneDrops", fn := fun _ => fun
  | [d1, d2] => { results := [.lit (.bool false)], args := [d1, d2] }
  | _ => none }
def PruneDropsWrongFalsely : Prop := pruneDropsRow.holds Try.pinned (OpenSpec.ofChange pruneDropsWrong)

/-- 'posternlaw18.PruneAgain': WHATEVER THE INPUT: true; the input reads as it did. -/
def pruneAgainSpec : ChangeSpec := { name := "pruneAgain", fn := fun _ => fun
  | [d1, d2] => { results := [.lit (.bool true)], args := [d1, d2] }
  | _ => none }
def pruneAgainRow : OpenClaim := { program := "ytmijlibnembkaaa", sum := "154f2f5e603b255e8906f751437525ec6f99fb6a69a4be7a088396b2f0acba8c", func := "postern/posternlaw18.PruneAgain", spec := "pruneAgain", inPlace := ["internal/bytealg.IndexByteString"], unfollowed := true, recurses := true, apart := false }
def PruneAgainSaid : Prop := pruneAgainRow.holds Try.pinned (OpenSpec.ofChange pruneAgainSpec)

/-- ITS FALSE NEIGHBOUR: 'it returns false'. Refute it at one input. -/
def pruneAgainWrong : ChangeSpec := { name := "pruneAgain", fn := fun _ => fun
  | [d1, d2] => { results := [.lit (.bool false)], args := [d1, d2] }
  | _ => none }
def PruneAgainWrongFalsely : Prop := pruneAgainRow.holds Try.pinned (OpenSpec.ofChange pruneAgainWrong)

/-- 'posternlaw19.FixMakes': WHATEVER THE INPUT: true; the input reads as it did. -/
def fixMakesSpec : ChangeSpec := { name := "fixMakes", fn := fun _ => fun
  | [d1, d2, d3] => { results := [.lit (.bool true)], args := [d1, d2, d3] }
  | _ => none }
def fixMakesRow : OpenClaim := { program := "ytmijlibnembkaaa", sum := "154f2f5e603b255e8906f751437525ec6f99fb6a69a4be7a088396b2f0acba8c", func := "postern/posternlaw19.FixMakes", spec := "fixMakes", inPlace := ["internal/bytealg.IndexByteString"], unfollowed := true, recurses := true, apart := false }
def FixMakesSaid : Prop := fixMakesRow.holds Try.pinned (OpenSpec.ofChange fixMakesSpec)

/-- ITS FALSE NEIGHBOUR: 'it returns false'. Refute it at one input. -/
def fixMakesWrong : ChangeSpec := { name := "fixMakes", fn := fun _ => fun
  | [d1, d2, d3] => { results := [.lit (.bool false)], args := [d1, d2, d3] }
  | _ => none }
def FixMakesWrongFalsely : Prop := fixMakesRow.holds Try.pinned (OpenSpec.ofChange fixMakesWrong)

/-- 'posternlaw19.FixStays': WHATEVER THE INPUT: true; the input reads as it did. -/
def fixStaysSpec : ChangeSpec := { name := "fixStays", fn := fun _ => fun
  | [d1, d2] => { results := [.lit (.bool true)], args := [d1, d2] }
  | _ => none }
def fixStaysRow : OpenClaim := { program := "ytmijlibnembkaaa", sum := "154f2f5e603b255e8906f751437525ec6f99fb6a69a4be7a088396b2f0acba8c", func := "postern/posternlaw19.FixStays", spec := "fixStays", inPlace := ["internal/bytealg.IndexByteString"], unfollowed := true, recurses := true, apart := false }
def FixStaysSaid : Prop := fixStaysRow.holds Try.pinned (OpenSpec.ofChange fixStaysSpec)

/-- ITS FALSE NEIGHBOUR: 'it returns false'. Refute it at one input. -/
def fixStaysWrong : ChangeSpec := { name := "fixStays", fn := fun _ => fun
  | [d1, d2] => { results := [.lit (.bool false)], args := [d1, d2] }
  | _ => none }
def FixStaysWrongFalsely : Prop := fixStaysRow.holds Try.pinned (OpenSpec.ofChange fixStaysWrong)

/- THE SECOND FORM. 'bulk': how many values and letters a reading holds, each counted each time it is reached (what is shared counts as often as it is met; a slice's spare places count too). A statement '..UptoSaid' is the law's where the arguments, and the package variables that the reading takes, are together of bulk at most 1048576: NARROWER than '..Said'. Prove '..Said' where nothing that the law and all that it calls make is longer than what came in: it says more and counts as full. Else prove '..UptoSaid'. A law counts once. -/
mutual
def uptoBulk {H : Type} : DataW H → Nat
  | .lit (.string bytes) => bytes.length + 1
  | .lit _ => 1
  | .nil => 1
  | .ptr d => uptoBulk d + 1
  | .slice elems spare => uptoBulkAll elems + uptoBulkAll spare + 1
  | .agg parts => uptoBulkAll parts + 1
  | .iface _ d => uptoBulk d + 1
  | .map entries => uptoBulkEntries entries + 1
  | .held _ => 1
def uptoBulkAll {H : Type} : List (DataW H) → Nat
  | [] => 0
  | d :: r => uptoBulk d + uptoBulkAll r
def uptoBulkEntries {H : Type} : List (Lit × DataW H) → Nat
  | [] => 0
  | x :: r => uptoBulkEntry x + uptoBulkEntries r
def uptoBulkEntry {H : Type} : Lit × DataW H → Nat
  | (.string bytes, d) => bytes.length + uptoBulk d + 1
  | (_, d) => uptoBulk d + 1
 end
def uptoSmall : (H : Type) → List (DataW H) → Bool := fun _ ds => decide (uptoBulkAll ds ≤ 1048576)
def OpenSpec.upto (s : _root_.Go.ChangeSpec) : _root_.Go.OpenSpec := { _root_.Go.OpenSpec.ofChange s with cond := some uptoSmall }

/-- 'posternlaw18.PruneDrops', WHERE WHAT IT READS IS OF BULK AT MOST 1048576: true; the input reads as it did. -/
def pruneDropsUptoRow : OpenClaim := { program := "ytmijlibnembkaaa", sum := "154f2f5e603b255e8906f751437525ec6f99fb6a69a4be7a088396b2f0acba8c", func := "postern/posternlaw18.PruneDrops", spec := "pruneDrops", inPlace := ["internal/bytealg.IndexByteString"], unfollowed := true, recurses := true, apart := false, narrowed := true }
def PruneDropsUptoSaid : Prop := pruneDropsUptoRow.holds Try.pinned (OpenSpec.upto pruneDropsSpec)

/-- 'posternlaw18.PruneAgain', WHERE WHAT IT READS IS OF BULK AT MOST 1048576: true; the input reads as it did. -/
def pruneAgainUptoRow : OpenClaim := { program := "ytmijlibnembkaaa", sum := "154f2f5e603b255e8906f751437525ec6f99fb6a69a4be7a088396b2f0acba8c", func := "postern/posternlaw18.PruneAgain", spec := "pruneAgain", inPlace := ["internal/bytealg.IndexByteString"], unfollowed := true, recurses := true, apart := false, narrowed := true }
def PruneAgainUptoSaid : Prop := pruneAgainUptoRow.holds Try.pinned (OpenSpec.upto pruneAgainSpec)

/-- 'posternlaw19.FixMakes', WHERE WHAT IT READS IS OF BULK AT MOST 1048576: true; the input reads as it did. -/
def fixMakesUptoRow : OpenClaim := { program := "ytmijlibnembkaaa", sum := "154f2f5e603b255e8906f751437525ec6f99fb6a69a4be7a088396b2f0acba8c", func := "postern/posternlaw19.FixMakes", spec := "fixMakes", inPlace := ["internal/bytealg.IndexByteString"], unfollowed := true, recurses := true, apart := false, narrowed := true }
def FixMakesUptoSaid : Prop := fixMakesUptoRow.holds Try.pinned (OpenSpec.upto fixMakesSpec)

/-- 'posternlaw19.FixStays', WHERE WHAT IT READS IS OF BULK AT MOST 1048576: true; the input reads as it did. -/
def fixStaysUptoRow : OpenClaim := { program := "ytmijlibnembkaaa", sum := "154f2f5e603b255e8906f751437525ec6f99fb6a69a4be7a088396b2f0acba8c", func := "postern/posternlaw19.FixStays", spec := "fixStays", inPlace := ["internal/bytealg.IndexByteString"], unfollowed := true, recurses := true, apart := false, narrowed := true }
def FixStaysUptoSaid : Prop := fixStaysUptoRow.holds Try.pinned (OpenSpec.upto fixStaysSpec)

end Rows
end Go.Proofs.Ytmijlibnembkaaa
