/-
  DERIVED. GIVEN WITH THE SEED: THE CARDS: each row of YtinhgnepnkbpcaaGreatDoorRows.lean that lists a variable, with what it lists TIED to the program's text (the seventh form; the later family's looks); each row that meets fmt, with fmt's text TOLD by the authors' own Lean function (tested against real Go, not proved from fmt's source: count such statements apart). THE CARD IS WHAT COUNTS. Prove the row's statement (the work); the ties are given (YtinhgnepnkbpcaaGreatDoorTie.lean); close each card by the builder's one call (the guide's Derived/Test/ToyasCard.lean, 'card_holds'). Laid BY PROGRAM, IN A SANDBOX (cutbox-door.mjs). By AI agents, Wed Nov 11 2026. No macro, syntax, notation, axiom, sorry.
-/
import Derived.Test.YtinhgnepnkbpcaaGreatDoorRows
import GoSem.ClaimSeven
namespace Go.Proofs.YtinhgnepnkbpcaaGreatDoor
namespace Rows

/-- THE TIED CARD OF 'emendlaw5.JsonRuns'. -/
def jsonRunsCard : Claim7 := { stood := { row := jsonRunsRow, standIns := [], harness := (true, "ef8fdc16a4a2fa8e4ca0d3561e7b28750933a8820d516c4360578a3d17051e00"), looks := true }, kinds := [], alts := [], laidByText := true, laidKinds := [.data, .data, .data, .data, .handle, .sentinel, .sentinel, .pinned], laidTests := true, laidLooks := .later }
def JsonRunsCardSaid : Prop := Claim7.holds Tryz.pinned (.plain (OpenSpec.ofChange jsonRunsSpec)) jsonRunsCard

/-- THE TIED CARD OF 'emendlaw5.JsonParses'. -/
def jsonParsesCard : Claim7 := { stood := { row := jsonParsesRow, standIns := [], harness := (true, "ef8fdc16a4a2fa8e4ca0d3561e7b28750933a8820d516c4360578a3d17051e00"), looks := true }, kinds := [], alts := [], laidByText := true, laidKinds := [.data, .data, .data, .data, .handle, .sentinel, .sentinel, .pinned], laidTests := true, laidLooks := .later }
def JsonParsesCardSaid : Prop := Claim7.holds Tryz.pinned (.plain (OpenSpec.ofChange jsonParsesSpec)) jsonParsesCard

/-- THE TIED CARD OF 'emendlaw5.JsonPrints'. -/
def jsonPrintsCard : Claim7 := { stood := { row := jsonPrintsRow, standIns := [], harness := (true, "ef8fdc16a4a2fa8e4ca0d3561e7b28750933a8820d516c4360578a3d17051e00"), looks := true }, kinds := [], alts := [], laidByText := true, laidKinds := [.data, .data, .data, .data, .handle, .sentinel, .sentinel, .pinned], laidTests := true, laidLooks := .later }
def JsonPrintsCardSaid : Prop := Claim7.holds Tryz.pinned (.plain (OpenSpec.ofChange jsonPrintsSpec)) jsonPrintsCard

/-- THE TIED CARD OF 'emendlaw5.JsonBack'. -/
def jsonBackCard : Claim7 := { stood := { row := jsonBackRow, standIns := [], harness := (true, "ef8fdc16a4a2fa8e4ca0d3561e7b28750933a8820d516c4360578a3d17051e00"), looks := true }, kinds := [], alts := [], laidByText := true, laidKinds := [.data, .data, .data, .data, .handle, .sentinel, .sentinel, .pinned], laidTests := true, laidLooks := .later }
def JsonBackCardSaid : Prop := Claim7.holds Tryz.pinned (.plain (OpenSpec.ofChange jsonBackSpec)) jsonBackCard

/-- THE TIED CARD OF 'emendlaw5.JsonTrees'. -/
def jsonTreesCard : Claim7 := { stood := { row := jsonTreesRow, standIns := [], harness := (true, "ef8fdc16a4a2fa8e4ca0d3561e7b28750933a8820d516c4360578a3d17051e00"), looks := true }, kinds := [], alts := [], laidByText := true, laidKinds := [.data, .data, .data, .data, .handle, .sentinel, .sentinel, .pinned], laidTests := true, laidLooks := .later }
def JsonTreesCardSaid : Prop := Claim7.holds Tryz.pinned (.plain (OpenSpec.ofChange jsonTreesSpec)) jsonTreesCard

/-- THE TIED CARD OF 'emendlaw5.JsonBlanks'. -/
def jsonBlanksCard : Claim7 := { stood := { row := jsonBlanksRow, standIns := [], harness := (true, "ef8fdc16a4a2fa8e4ca0d3561e7b28750933a8820d516c4360578a3d17051e00"), looks := true }, kinds := [], alts := [], laidByText := true, laidKinds := [.data, .data, .data, .data, .handle, .sentinel, .sentinel, .pinned], laidTests := true, laidLooks := .later }
def JsonBlanksCardSaid : Prop := Claim7.holds Tryz.pinned (.plain (OpenSpec.ofChange jsonBlanksSpec)) jsonBlanksCard

/-- THE SECOND FORM's CARD OF 'emendlaw5.JsonRuns'. -/
def jsonRunsUptoCard : Claim7 := { stood := { row := jsonRunsUptoRow, standIns := [], harness := (true, "ef8fdc16a4a2fa8e4ca0d3561e7b28750933a8820d516c4360578a3d17051e00"), looks := true }, kinds := [], alts := [], laidByText := true, laidKinds := [.data, .data, .data, .data, .handle, .sentinel, .sentinel, .pinned], laidTests := true, laidLooks := .later }
def JsonRunsUptoCardSaid : Prop := Claim7.holds Tryz.pinned (.plain (OpenSpec.upto jsonRunsSpec)) jsonRunsUptoCard

/-- THE SECOND FORM's CARD OF 'emendlaw5.JsonParses'. -/
def jsonParsesUptoCard : Claim7 := { stood := { row := jsonParsesUptoRow, standIns := [], harness := (true, "ef8fdc16a4a2fa8e4ca0d3561e7b28750933a8820d516c4360578a3d17051e00"), looks := true }, kinds := [], alts := [], laidByText := true, laidKinds := [.data, .data, .data, .data, .handle, .sentinel, .sentinel, .pinned], laidTests := true, laidLooks := .later }
def JsonParsesUptoCardSaid : Prop := Claim7.holds Tryz.pinned (.plain (OpenSpec.upto jsonParsesSpec)) jsonParsesUptoCard

/-- THE SECOND FORM's CARD OF 'emendlaw5.JsonPrints'. -/
def jsonPrintsUptoCard : Claim7 := { stood := { row := jsonPrintsUptoRow, standIns := [], harness := (true, "ef8fdc16a4a2fa8e4ca0d3561e7b28750933a8820d516c4360578a3d17051e00"), looks := true }, kinds := [], alts := [], laidByText := true, laidKinds := [.data, .data, .data, .data, .handle, .sentinel, .sentinel, .pinned], laidTests := true, laidLooks := .later }
def JsonPrintsUptoCardSaid : Prop := Claim7.holds Tryz.pinned (.plain (OpenSpec.upto jsonPrintsSpec)) jsonPrintsUptoCard

/-- THE SECOND FORM's CARD OF 'emendlaw5.JsonBack'. -/
def jsonBackUptoCard : Claim7 := { stood := { row := jsonBackUptoRow, standIns := [], harness := (true, "ef8fdc16a4a2fa8e4ca0d3561e7b28750933a8820d516c4360578a3d17051e00"), looks := true }, kinds := [], alts := [], laidByText := true, laidKinds := [.data, .data, .data, .data, .handle, .sentinel, .sentinel, .pinned], laidTests := true, laidLooks := .later }
def JsonBackUptoCardSaid : Prop := Claim7.holds Tryz.pinned (.plain (OpenSpec.upto jsonBackSpec)) jsonBackUptoCard

/-- THE SECOND FORM's CARD OF 'emendlaw5.JsonTrees'. -/
def jsonTreesUptoCard : Claim7 := { stood := { row := jsonTreesUptoRow, standIns := [], harness := (true, "ef8fdc16a4a2fa8e4ca0d3561e7b28750933a8820d516c4360578a3d17051e00"), looks := true }, kinds := [], alts := [], laidByText := true, laidKinds := [.data, .data, .data, .data, .handle, .sentinel, .sentinel, .pinned], laidTests := true, laidLooks := .later }
def JsonTreesUptoCardSaid : Prop := Claim7.holds Tryz.pinned (.plain (OpenSpec.upto jsonTreesSpec)) jsonTreesUptoCard

/-- THE SECOND FORM's CARD OF 'emendlaw5.JsonBlanks'. -/
def jsonBlanksUptoCard : Claim7 := { stood := { row := jsonBlanksUptoRow, standIns := [], harness := (true, "ef8fdc16a4a2fa8e4ca0d3561e7b28750933a8820d516c4360578a3d17051e00"), looks := true }, kinds := [], alts := [], laidByText := true, laidKinds := [.data, .data, .data, .data, .handle, .sentinel, .sentinel, .pinned], laidTests := true, laidLooks := .later }
def JsonBlanksUptoCardSaid : Prop := Claim7.holds Tryz.pinned (.plain (OpenSpec.upto jsonBlanksSpec)) jsonBlanksUptoCard
end Rows
end Go.Proofs.YtinhgnepnkbpcaaGreatDoor
