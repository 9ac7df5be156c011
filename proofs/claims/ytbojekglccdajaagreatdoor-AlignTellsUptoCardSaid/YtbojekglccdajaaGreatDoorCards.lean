/-
  DERIVED. GIVEN WITH THE SEED: THE CARDS: each row of YtbojekglccdajaaGreatDoorRows.lean that lists a variable, with what it lists TIED to the program's text (the seventh form; the later family's looks); each row that meets fmt, with fmt's text TOLD by the authors' own Lean function (tested against real Go, not proved from fmt's source: count such statements apart). THE CARD IS WHAT COUNTS. Prove the row's statement (the work); the ties are given (YtbojekglccdajaaGreatDoorTie.lean); close each card by the builder's one call (the guide's Derived/Test/ToyasCard.lean, 'card_holds'). Laid BY PROGRAM, IN A SANDBOX (cutbox-door.mjs). By AI agents, Wed Nov 11 2026. No macro, syntax, notation, axiom, sorry.
-/
import Derived.Test.YtbojekglccdajaaGreatDoorRows
import GoSem.ClaimSeven
namespace Go.Proofs.YtbojekglccdajaaGreatDoor
namespace Rows

/-- THE TIED CARD OF 'emendlaw13.AlignRuns'. -/
def alignRunsCard : Claim7 := { stood := { row := alignRunsRow, standIns := [], harness := (true, "72989c71f417187e2be4cfce0f15be33102465f1d989021909ab24cb090ff331"), looks := true }, kinds := [], alts := [], laidByText := true, laidKinds := [.data, .data, .data, .data, .sentinel, .sentinel, .pinned], laidTests := true, laidLooks := .later }
def AlignRunsCardSaid : Prop := Claim7.holds Tryz.pinned (.plain (OpenSpec.ofChange alignRunsSpec)) alignRunsCard

/-- THE TIED CARD OF 'emendlaw13.AlignTells'. -/
def alignTellsCard : Claim7 := { stood := { row := alignTellsRow, standIns := [], harness := (true, "72989c71f417187e2be4cfce0f15be33102465f1d989021909ab24cb090ff331"), looks := true }, kinds := [], alts := [], laidByText := true, laidKinds := [.data, .data, .data, .data, .sentinel, .sentinel, .pinned], laidTests := true, laidLooks := .later }
def AlignTellsCardSaid : Prop := Claim7.holds Tryz.pinned (.plain (OpenSpec.ofChange alignTellsSpec)) alignTellsCard

/-- THE TIED CARD OF 'emendlaw13.AlignRights'. -/
def alignRightsCard : Claim7 := { stood := { row := alignRightsRow, standIns := [], harness := (true, "72989c71f417187e2be4cfce0f15be33102465f1d989021909ab24cb090ff331"), looks := true }, kinds := [], alts := [], laidByText := true, laidKinds := [.data, .data, .data, .data, .sentinel, .sentinel, .pinned], laidTests := true, laidLooks := .later }
def AlignRightsCardSaid : Prop := Claim7.holds Tryz.pinned (.plain (OpenSpec.ofChange alignRightsSpec)) alignRightsCard

/-- THE TIED CARD OF 'emendlaw13.AlignCheapest'. -/
def alignCheapestCard : Claim7 := { stood := { row := alignCheapestRow, standIns := [], harness := (true, "72989c71f417187e2be4cfce0f15be33102465f1d989021909ab24cb090ff331"), looks := true }, kinds := [], alts := [], laidByText := true, laidKinds := [.data, .data, .data, .data, .sentinel, .sentinel, .pinned], laidTests := true, laidLooks := .later }
def AlignCheapestCardSaid : Prop := Claim7.holds Tryz.pinned (.plain (OpenSpec.ofChange alignCheapestSpec)) alignCheapestCard

/-- THE TIED CARD OF 'emendlaw13.AlignSame'. -/
def alignSameCard : Claim7 := { stood := { row := alignSameRow, standIns := [], harness := (true, "72989c71f417187e2be4cfce0f15be33102465f1d989021909ab24cb090ff331"), looks := true }, kinds := [], alts := [], laidByText := true, laidKinds := [.data, .data, .data, .data, .sentinel, .sentinel, .pinned], laidTests := true, laidLooks := .later }
def AlignSameCardSaid : Prop := Claim7.holds Tryz.pinned (.plain (OpenSpec.ofChange alignSameSpec)) alignSameCard

/-- THE TIED CARD OF 'emendlaw13.AlignLimits'. -/
def alignLimitsCard : Claim7 := { stood := { row := alignLimitsRow, standIns := [], harness := (true, "72989c71f417187e2be4cfce0f15be33102465f1d989021909ab24cb090ff331"), looks := true }, kinds := [], alts := [], laidByText := true, laidKinds := [.data, .data, .data, .data, .sentinel, .sentinel, .pinned], laidTests := true, laidLooks := .later }
def AlignLimitsCardSaid : Prop := Claim7.holds Tryz.pinned (.plain (OpenSpec.ofChange alignLimitsSpec)) alignLimitsCard

/-- THE TIED CARD OF 'emendlaw13.AlignTurned'. -/
def alignTurnedCard : Claim7 := { stood := { row := alignTurnedRow, standIns := [], harness := (true, "72989c71f417187e2be4cfce0f15be33102465f1d989021909ab24cb090ff331"), looks := true }, kinds := [], alts := [], laidByText := true, laidKinds := [.data, .data, .data, .data, .sentinel, .sentinel, .pinned], laidTests := true, laidLooks := .later }
def AlignTurnedCardSaid : Prop := Claim7.holds Tryz.pinned (.plain (OpenSpec.ofChange alignTurnedSpec)) alignTurnedCard

/-- THE TIED CARD OF 'emendlaw13.AlignFair'. -/
def alignFairCard : Claim7 := { stood := { row := alignFairRow, standIns := [], harness := (true, "72989c71f417187e2be4cfce0f15be33102465f1d989021909ab24cb090ff331"), looks := true }, kinds := [], alts := [], laidByText := true, laidKinds := [.data, .data, .data, .data, .sentinel, .sentinel, .pinned], laidTests := true, laidLooks := .later }
def AlignFairCardSaid : Prop := Claim7.holds Tryz.pinned (.plain (OpenSpec.ofChange alignFairSpec)) alignFairCard

/-- THE SECOND FORM's CARD OF 'emendlaw13.AlignRuns'. -/
def alignRunsUptoCard : Claim7 := { stood := { row := alignRunsUptoRow, standIns := [], harness := (true, "72989c71f417187e2be4cfce0f15be33102465f1d989021909ab24cb090ff331"), looks := true }, kinds := [], alts := [], laidByText := true, laidKinds := [.data, .data, .data, .data, .sentinel, .sentinel, .pinned], laidTests := true, laidLooks := .later }
def AlignRunsUptoCardSaid : Prop := Claim7.holds Tryz.pinned (.plain (OpenSpec.upto alignRunsSpec)) alignRunsUptoCard

/-- THE SECOND FORM's CARD OF 'emendlaw13.AlignTells'. -/
def alignTellsUptoCard : Claim7 := { stood := { row := alignTellsUptoRow, standIns := [], harness := (true, "72989c71f417187e2be4cfce0f15be33102465f1d989021909ab24cb090ff331"), looks := true }, kinds := [], alts := [], laidByText := true, laidKinds := [.data, .data, .data, .data, .sentinel, .sentinel, .pinned], laidTests := true, laidLooks := .later }
def AlignTellsUptoCardSaid : Prop := Claim7.holds Tryz.pinned (.plain (OpenSpec.upto alignTellsSpec)) alignTellsUptoCard

/-- THE SECOND FORM's CARD OF 'emendlaw13.AlignRights'. -/
def alignRightsUptoCard : Claim7 := { stood := { row := alignRightsUptoRow, standIns := [], harness := (true, "72989c71f417187e2be4cfce0f15be33102465f1d989021909ab24cb090ff331"), looks := true }, kinds := [], alts := [], laidByText := true, laidKinds := [.data, .data, .data, .data, .sentinel, .sentinel, .pinned], laidTests := true, laidLooks := .later }
def AlignRightsUptoCardSaid : Prop := Claim7.holds Tryz.pinned (.plain (OpenSpec.upto alignRightsSpec)) alignRightsUptoCard

/-- THE SECOND FORM's CARD OF 'emendlaw13.AlignCheapest'. -/
def alignCheapestUptoCard : Claim7 := { stood := { row := alignCheapestUptoRow, standIns := [], harness := (true, "72989c71f417187e2be4cfce0f15be33102465f1d989021909ab24cb090ff331"), looks := true }, kinds := [], alts := [], laidByText := true, laidKinds := [.data, .data, .data, .data, .sentinel, .sentinel, .pinned], laidTests := true, laidLooks := .later }
def AlignCheapestUptoCardSaid : Prop := Claim7.holds Tryz.pinned (.plain (OpenSpec.upto alignCheapestSpec)) alignCheapestUptoCard

/-- THE SECOND FORM's CARD OF 'emendlaw13.AlignSame'. -/
def alignSameUptoCard : Claim7 := { stood := { row := alignSameUptoRow, standIns := [], harness := (true, "72989c71f417187e2be4cfce0f15be33102465f1d989021909ab24cb090ff331"), looks := true }, kinds := [], alts := [], laidByText := true, laidKinds := [.data, .data, .data, .data, .sentinel, .sentinel, .pinned], laidTests := true, laidLooks := .later }
def AlignSameUptoCardSaid : Prop := Claim7.holds Tryz.pinned (.plain (OpenSpec.upto alignSameSpec)) alignSameUptoCard

/-- THE SECOND FORM's CARD OF 'emendlaw13.AlignLimits'. -/
def alignLimitsUptoCard : Claim7 := { stood := { row := alignLimitsUptoRow, standIns := [], harness := (true, "72989c71f417187e2be4cfce0f15be33102465f1d989021909ab24cb090ff331"), looks := true }, kinds := [], alts := [], laidByText := true, laidKinds := [.data, .data, .data, .data, .sentinel, .sentinel, .pinned], laidTests := true, laidLooks := .later }
def AlignLimitsUptoCardSaid : Prop := Claim7.holds Tryz.pinned (.plain (OpenSpec.upto alignLimitsSpec)) alignLimitsUptoCard

/-- THE SECOND FORM's CARD OF 'emendlaw13.AlignTurned'. -/
def alignTurnedUptoCard : Claim7 := { stood := { row := alignTurnedUptoRow, standIns := [], harness := (true, "72989c71f417187e2be4cfce0f15be33102465f1d989021909ab24cb090ff331"), looks := true }, kinds := [], alts := [], laidByText := true, laidKinds := [.data, .data, .data, .data, .sentinel, .sentinel, .pinned], laidTests := true, laidLooks := .later }
def AlignTurnedUptoCardSaid : Prop := Claim7.holds Tryz.pinned (.plain (OpenSpec.upto alignTurnedSpec)) alignTurnedUptoCard

/-- THE SECOND FORM's CARD OF 'emendlaw13.AlignFair'. -/
def alignFairUptoCard : Claim7 := { stood := { row := alignFairUptoRow, standIns := [], harness := (true, "72989c71f417187e2be4cfce0f15be33102465f1d989021909ab24cb090ff331"), looks := true }, kinds := [], alts := [], laidByText := true, laidKinds := [.data, .data, .data, .data, .sentinel, .sentinel, .pinned], laidTests := true, laidLooks := .later }
def AlignFairUptoCardSaid : Prop := Claim7.holds Tryz.pinned (.plain (OpenSpec.upto alignFairSpec)) alignFairUptoCard
end Rows
end Go.Proofs.YtbojekglccdajaaGreatDoor
