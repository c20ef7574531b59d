/- Words of the kit's printer, as far as this claim uses them. -/
import Derived.Test.YtmijlibnembkaaaAgWInv
import Derived.Test.YtmijlibnembkaaaAgWFootNe
namespace Go.Proofs.YtmijlibnembkaaaW.PrintWords
open Go.RowKit
end Go.Proofs.YtmijlibnembkaaaW.PrintWords
namespace Go.Proofs.YtmijlibnembkaaaW.PrintLast
section
variable {ops : Array Oper} {a : Act} {o og : Oper} {g : Nat} {t : Tmp} {u : Bool}
end
end Go.Proofs.YtmijlibnembkaaaW.PrintLast

