/-
  DERIVED. GIVEN WITH THE SEED: THE CARDS: each row of YtbepakbjinhjcaaGreatDoorRows.lean that lists a variable, with what it lists TIED to the program's text (the seventh form; the later family's looks); each row that meets fmt, with fmt's text TOLD by the authors' own Lean function (tested against real Go, not proved from fmt's source: count such statements apart). THE CARD IS WHAT COUNTS. Prove the row's statement (the work); the ties are given (YtbepakbjinhjcaaGreatDoorTie.lean); close each card by the builder's one call (the guide's Derived/Test/ToyasCard.lean, 'card_holds'). Laid BY PROGRAM, IN A SANDBOX (cutbox-door.mjs). By AI agents, Wed Nov 11 2026. No macro, syntax, notation, axiom, sorry.
-/
import Derived.Test.YtbepakbjinhjcaaGreatDoorRows
import GoSem.ClaimSeven
namespace Go.Proofs.YtbepakbjinhjcaaGreatDoor
namespace Rows

/-- THE TIED CARD OF 'posternlaw23.ArmCodes'. -/
def armCodesCard : Claim7 := { stood := { row := armCodesRow, standIns := [], harness := (true, "56cfea7cc61bc55af7c6dae571489870383f217aa6abea9e08d2218ca4b8efee"), looks := true }, kinds := [], alts := [], laidByText := true, laidKinds := [.data, .data], laidTests := true, laidLooks := .later }
def ArmCodesCardSaid : Prop := Claim7.holds Tryz.pinned (.plain (OpenSpec.ofChange armCodesSpec)) armCodesCard

/-- THE TIED CARD OF 'posternlaw23.ArmWords'. -/
def armWordsCard : Claim7 := { stood := { row := armWordsRow, standIns := [], harness := (true, "56cfea7cc61bc55af7c6dae571489870383f217aa6abea9e08d2218ca4b8efee"), looks := true }, kinds := [], alts := [], laidByText := true, laidKinds := [.data, .data], laidTests := true, laidLooks := .later }
def ArmWordsCardSaid : Prop := Claim7.holds Tryz.pinned (.plain (OpenSpec.ofChange armWordsSpec)) armWordsCard

/-- THE TIED CARD OF 'posternlaw23.ArmNumbers'. -/
def armNumbersCard : Claim7 := { stood := { row := armNumbersRow, standIns := [], harness := (true, "56cfea7cc61bc55af7c6dae571489870383f217aa6abea9e08d2218ca4b8efee"), looks := true }, kinds := [], alts := [], laidByText := true, laidKinds := [.data, .data], laidTests := true, laidLooks := .later }
def ArmNumbersCardSaid : Prop := Claim7.holds Tryz.pinned (.plain (OpenSpec.ofChange armNumbersSpec)) armNumbersCard

/-- THE TIED CARD OF 'posternlaw23.ArmDivides'. -/
def armDividesCard : Claim7 := { stood := { row := armDividesRow, standIns := [], harness := (true, "56cfea7cc61bc55af7c6dae571489870383f217aa6abea9e08d2218ca4b8efee"), looks := true }, kinds := [], alts := [], laidByText := true, laidKinds := [.data, .data], laidTests := true, laidLooks := .later }
def ArmDividesCardSaid : Prop := Claim7.holds Tryz.pinned (.plain (OpenSpec.ofChange armDividesSpec)) armDividesCard

/-- THE TIED CARD OF 'posternlaw23.ArmNil'. -/
def armNilCard : Claim7 := { stood := { row := armNilRow, standIns := [], harness := (true, "56cfea7cc61bc55af7c6dae571489870383f217aa6abea9e08d2218ca4b8efee"), looks := true }, kinds := [], alts := [], laidByText := true, laidKinds := [.data, .data], laidTests := true, laidLooks := .later }
def ArmNilCardSaid : Prop := Claim7.holds Tryz.pinned (.plain (OpenSpec.ofChange armNilSpec)) armNilCard

/-- THE TIED CARD OF 'posternlaw23.ArmRuns'. -/
def armRunsCard : Claim7 := { stood := { row := armRunsRow, standIns := [], harness := (true, "56cfea7cc61bc55af7c6dae571489870383f217aa6abea9e08d2218ca4b8efee"), looks := true }, kinds := [], alts := [], laidByText := true, laidKinds := [.data, .data], laidTests := true, laidLooks := .later }
def ArmRunsCardSaid : Prop := Claim7.holds Tryz.pinned (.plain (OpenSpec.ofChange armRunsSpec)) armRunsCard

/-- THE SECOND FORM's CARD OF 'posternlaw23.ArmCodes'. -/
def armCodesUptoCard : Claim7 := { stood := { row := armCodesUptoRow, standIns := [], harness := (true, "56cfea7cc61bc55af7c6dae571489870383f217aa6abea9e08d2218ca4b8efee"), looks := true }, kinds := [], alts := [], laidByText := true, laidKinds := [.data, .data], laidTests := true, laidLooks := .later }
def ArmCodesUptoCardSaid : Prop := Claim7.holds Tryz.pinned (.plain (OpenSpec.upto armCodesSpec)) armCodesUptoCard

/-- THE SECOND FORM's CARD OF 'posternlaw23.ArmWords'. -/
def armWordsUptoCard : Claim7 := { stood := { row := armWordsUptoRow, standIns := [], harness := (true, "56cfea7cc61bc55af7c6dae571489870383f217aa6abea9e08d2218ca4b8efee"), looks := true }, kinds := [], alts := [], laidByText := true, laidKinds := [.data, .data], laidTests := true, laidLooks := .later }
def ArmWordsUptoCardSaid : Prop := Claim7.holds Tryz.pinned (.plain (OpenSpec.upto armWordsSpec)) armWordsUptoCard

/-- THE SECOND FORM's CARD OF 'posternlaw23.ArmNumbers'. -/
def armNumbersUptoCard : Claim7 := { stood := { row := armNumbersUptoRow, standIns := [], harness := (true, "56cfea7cc61bc55af7c6dae571489870383f217aa6abea9e08d2218ca4b8efee"), looks := true }, kinds := [], alts := [], laidByText := true, laidKinds := [.data, .data], laidTests := true, laidLooks := .later }
def ArmNumbersUptoCardSaid : Prop := Claim7.holds Tryz.pinned (.plain (OpenSpec.upto armNumbersSpec)) armNumbersUptoCard

/-- THE SECOND FORM's CARD OF 'posternlaw23.ArmDivides'. -/
def armDividesUptoCard : Claim7 := { stood := { row := armDividesUptoRow, standIns := [], harness := (true, "56cfea7cc61bc55af7c6dae571489870383f217aa6abea9e08d2218ca4b8efee"), looks := true }, kinds := [], alts := [], laidByText := true, laidKinds := [.data, .data], laidTests := true, laidLooks := .later }
def ArmDividesUptoCardSaid : Prop := Claim7.holds Tryz.pinned (.plain (OpenSpec.upto armDividesSpec)) armDividesUptoCard

/-- THE SECOND FORM's CARD OF 'posternlaw23.ArmNil'. -/
def armNilUptoCard : Claim7 := { stood := { row := armNilUptoRow, standIns := [], harness := (true, "56cfea7cc61bc55af7c6dae571489870383f217aa6abea9e08d2218ca4b8efee"), looks := true }, kinds := [], alts := [], laidByText := true, laidKinds := [.data, .data], laidTests := true, laidLooks := .later }
def ArmNilUptoCardSaid : Prop := Claim7.holds Tryz.pinned (.plain (OpenSpec.upto armNilSpec)) armNilUptoCard

/-- THE SECOND FORM's CARD OF 'posternlaw23.ArmRuns'. -/
def armRunsUptoCard : Claim7 := { stood := { row := armRunsUptoRow, standIns := [], harness := (true, "56cfea7cc61bc55af7c6dae571489870383f217aa6abea9e08d2218ca4b8efee"), looks := true }, kinds := [], alts := [], laidByText := true, laidKinds := [.data, .data], laidTests := true, laidLooks := .later }
def ArmRunsUptoCardSaid : Prop := Claim7.holds Tryz.pinned (.plain (OpenSpec.upto armRunsSpec)) armRunsUptoCard
end Rows
end Go.Proofs.YtbepakbjinhjcaaGreatDoor
