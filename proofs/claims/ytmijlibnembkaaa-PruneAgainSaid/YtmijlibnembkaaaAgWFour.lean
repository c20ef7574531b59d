/- Words of the kit's printer, as far as this claim uses them. -/
import Derived.Test.YtmijlibnembkaaaAgWTab
/-! ### 56. Four, five, six operations that may come up next, in any order -/
namespace Go.Proofs.YtmijlibnembkaaaW.PrintLast
section
variable {P : Program} {ops : Array Oper} {Q : Exit → Act → World → Prop} {md : Region.Mode} {S : World → Prop} {ds : List Nat} {T : Bool × List (List Nat × List Nat)}
end
end Go.Proofs.YtmijlibnembkaaaW.PrintLast

