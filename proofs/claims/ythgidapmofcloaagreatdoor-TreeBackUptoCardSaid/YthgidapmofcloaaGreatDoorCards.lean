/-
  DERIVED. GIVEN WITH THE SEED: THE CARDS: each row of YthgidapmofcloaaGreatDoorRows.lean that lists a variable, with what it lists TIED to the program's text (the seventh form; the later family's looks); each row that meets fmt, with fmt's text TOLD by the authors' own Lean function (tested against real Go, not proved from fmt's source: count such statements apart). THE CARD IS WHAT COUNTS. Prove the row's statement (the work); the ties are given (YthgidapmofcloaaGreatDoorTie.lean); close each card by the builder's one call (the guide's Derived/Test/ToyasCard.lean, 'card_holds'). Laid BY PROGRAM, IN A SANDBOX (cutbox-door.mjs). By AI agents, Wed Nov 11 2026. No macro, syntax, notation, axiom, sorry.
-/
import Derived.Test.YthgidapmofcloaaGreatDoorRows
import GoSem.ClaimSeven
namespace Go.Proofs.YthgidapmofcloaaGreatDoor
namespace Rows

/-- THE TIED CARD OF 'emendlaw3.TreeRuns'. -/
def treeRunsCard : Claim7 := { stood := { row := treeRunsRow, standIns := [], harness := (true, "dedfd39d7971c260efb8a7a7809d20f51ae7892b7182166e05c157c3579e16a5"), looks := true }, kinds := [], alts := [], laidByText := true, laidKinds := [.data, .data, .data, .data, .handle, .sentinel, .sentinel, .pinned], laidTests := true, laidLooks := .later }
def TreeRunsCardSaid : Prop := Claim7.holds Tryz.pinned (.plain (OpenSpec.ofChange treeRunsSpec)) treeRunsCard

/-- THE TIED CARD OF 'emendlaw3.TreeRights'. -/
def treeRightsCard : Claim7 := { stood := { row := treeRightsRow, standIns := [], harness := (true, "dedfd39d7971c260efb8a7a7809d20f51ae7892b7182166e05c157c3579e16a5"), looks := true }, kinds := [], alts := [], laidByText := true, laidKinds := [.data, .data, .data, .data, .handle, .sentinel, .sentinel, .pinned], laidTests := true, laidLooks := .later }
def TreeRightsCardSaid : Prop := Claim7.holds Tryz.pinned (.plain (OpenSpec.ofChange treeRightsSpec)) treeRightsCard

/-- THE TIED CARD OF 'emendlaw3.TreeSames'. -/
def treeSamesCard : Claim7 := { stood := { row := treeSamesRow, standIns := [], harness := (true, "dedfd39d7971c260efb8a7a7809d20f51ae7892b7182166e05c157c3579e16a5"), looks := true }, kinds := [], alts := [], laidByText := true, laidKinds := [.data, .data, .data, .data, .handle, .sentinel, .sentinel, .pinned], laidTests := true, laidLooks := .later }
def TreeSamesCardSaid : Prop := Claim7.holds Tryz.pinned (.plain (OpenSpec.ofChange treeSamesSpec)) treeSamesCard

/-- THE TIED CARD OF 'emendlaw3.TreeCompares'. -/
def treeComparesCard : Claim7 := { stood := { row := treeComparesRow, standIns := [], harness := (true, "dedfd39d7971c260efb8a7a7809d20f51ae7892b7182166e05c157c3579e16a5"), looks := true }, kinds := [], alts := [], laidByText := true, laidKinds := [.data, .data, .data, .data, .handle, .sentinel, .sentinel, .pinned], laidTests := true, laidLooks := .later }
def TreeComparesCardSaid : Prop := Claim7.holds Tryz.pinned (.plain (OpenSpec.ofChange treeComparesSpec)) treeComparesCard

/-- THE TIED CARD OF 'emendlaw3.TreeOrder'. -/
def treeOrderCard : Claim7 := { stood := { row := treeOrderRow, standIns := [], harness := (true, "dedfd39d7971c260efb8a7a7809d20f51ae7892b7182166e05c157c3579e16a5"), looks := true }, kinds := [], alts := [], laidByText := true, laidKinds := [.data, .data, .data, .data, .handle, .sentinel, .sentinel, .pinned], laidTests := true, laidLooks := .later }
def TreeOrderCardSaid : Prop := Claim7.holds Tryz.pinned (.plain (OpenSpec.ofChange treeOrderSpec)) treeOrderCard

/-- THE TIED CARD OF 'emendlaw3.TreeTexts'. -/
def treeTextsCard : Claim7 := { stood := { row := treeTextsRow, standIns := [], harness := (true, "dedfd39d7971c260efb8a7a7809d20f51ae7892b7182166e05c157c3579e16a5"), looks := true }, kinds := [], alts := [], laidByText := true, laidKinds := [.data, .data, .data, .data, .handle, .sentinel, .sentinel, .pinned], laidTests := true, laidLooks := .later }
def TreeTextsCardSaid : Prop := Claim7.holds Tryz.pinned (.plain (OpenSpec.ofChange treeTextsSpec)) treeTextsCard

/-- THE TIED CARD OF 'emendlaw3.TreeParses'. -/
def treeParsesCard : Claim7 := { stood := { row := treeParsesRow, standIns := [], harness := (true, "dedfd39d7971c260efb8a7a7809d20f51ae7892b7182166e05c157c3579e16a5"), looks := true }, kinds := [], alts := [], laidByText := true, laidKinds := [.data, .data, .data, .data, .handle, .sentinel, .sentinel, .pinned], laidTests := true, laidLooks := .later }
def TreeParsesCardSaid : Prop := Claim7.holds Tryz.pinned (.plain (OpenSpec.ofChange treeParsesSpec)) treeParsesCard

/-- THE TIED CARD OF 'emendlaw3.TreeBack'. -/
def treeBackCard : Claim7 := { stood := { row := treeBackRow, standIns := [], harness := (true, "dedfd39d7971c260efb8a7a7809d20f51ae7892b7182166e05c157c3579e16a5"), looks := true }, kinds := [], alts := [], laidByText := true, laidKinds := [.data, .data, .data, .data, .handle, .sentinel, .sentinel, .pinned], laidTests := true, laidLooks := .later }
def TreeBackCardSaid : Prop := Claim7.holds Tryz.pinned (.plain (OpenSpec.ofChange treeBackSpec)) treeBackCard

/-- THE TIED CARD OF 'emendlaw3.TreeGets'. -/
def treeGetsCard : Claim7 := { stood := { row := treeGetsRow, standIns := [], harness := (true, "dedfd39d7971c260efb8a7a7809d20f51ae7892b7182166e05c157c3579e16a5"), looks := true }, kinds := [], alts := [], laidByText := true, laidKinds := [.data, .data, .data, .data, .handle, .sentinel, .sentinel, .pinned], laidTests := true, laidLooks := .later }
def TreeGetsCardSaid : Prop := Claim7.holds Tryz.pinned (.plain (OpenSpec.ofChange treeGetsSpec)) treeGetsCard

/-- THE TIED CARD OF 'emendlaw3.TreeSetGet'. -/
def treeSetGetCard : Claim7 := { stood := { row := treeSetGetRow, standIns := [], harness := (true, "dedfd39d7971c260efb8a7a7809d20f51ae7892b7182166e05c157c3579e16a5"), looks := true }, kinds := [], alts := [], laidByText := true, laidKinds := [.data, .data, .data, .data, .handle, .sentinel, .sentinel, .pinned], laidTests := true, laidLooks := .later }
def TreeSetGetCardSaid : Prop := Claim7.holds Tryz.pinned (.plain (OpenSpec.ofChange treeSetGetSpec)) treeSetGetCard

/-- THE TIED CARD OF 'emendlaw3.TreeTurned'. -/
def treeTurnedCard : Claim7 := { stood := { row := treeTurnedRow, standIns := [], harness := (true, "dedfd39d7971c260efb8a7a7809d20f51ae7892b7182166e05c157c3579e16a5"), looks := true }, kinds := [], alts := [], laidByText := true, laidKinds := [.data, .data, .data, .data, .handle, .sentinel, .sentinel, .pinned], laidTests := true, laidLooks := .later }
def TreeTurnedCardSaid : Prop := Claim7.holds Tryz.pinned (.plain (OpenSpec.ofChange treeTurnedSpec)) treeTurnedCard

/-- THE TIED CARD OF 'emendlaw3.TreeLimits'. -/
def treeLimitsCard : Claim7 := { stood := { row := treeLimitsRow, standIns := [], harness := (true, "dedfd39d7971c260efb8a7a7809d20f51ae7892b7182166e05c157c3579e16a5"), looks := true }, kinds := [], alts := [], laidByText := true, laidKinds := [.data, .data, .data, .data, .handle, .sentinel, .sentinel, .pinned], laidTests := true, laidLooks := .later }
def TreeLimitsCardSaid : Prop := Claim7.holds Tryz.pinned (.plain (OpenSpec.ofChange treeLimitsSpec)) treeLimitsCard

/-- THE SECOND FORM's CARD OF 'emendlaw3.TreeRuns'. -/
def treeRunsUptoCard : Claim7 := { stood := { row := treeRunsUptoRow, standIns := [], harness := (true, "dedfd39d7971c260efb8a7a7809d20f51ae7892b7182166e05c157c3579e16a5"), looks := true }, kinds := [], alts := [], laidByText := true, laidKinds := [.data, .data, .data, .data, .handle, .sentinel, .sentinel, .pinned], laidTests := true, laidLooks := .later }
def TreeRunsUptoCardSaid : Prop := Claim7.holds Tryz.pinned (.plain (OpenSpec.upto treeRunsSpec)) treeRunsUptoCard

/-- THE SECOND FORM's CARD OF 'emendlaw3.TreeRights'. -/
def treeRightsUptoCard : Claim7 := { stood := { row := treeRightsUptoRow, standIns := [], harness := (true, "dedfd39d7971c260efb8a7a7809d20f51ae7892b7182166e05c157c3579e16a5"), looks := true }, kinds := [], alts := [], laidByText := true, laidKinds := [.data, .data, .data, .data, .handle, .sentinel, .sentinel, .pinned], laidTests := true, laidLooks := .later }
def TreeRightsUptoCardSaid : Prop := Claim7.holds Tryz.pinned (.plain (OpenSpec.upto treeRightsSpec)) treeRightsUptoCard

/-- THE SECOND FORM's CARD OF 'emendlaw3.TreeSames'. -/
def treeSamesUptoCard : Claim7 := { stood := { row := treeSamesUptoRow, standIns := [], harness := (true, "dedfd39d7971c260efb8a7a7809d20f51ae7892b7182166e05c157c3579e16a5"), looks := true }, kinds := [], alts := [], laidByText := true, laidKinds := [.data, .data, .data, .data, .handle, .sentinel, .sentinel, .pinned], laidTests := true, laidLooks := .later }
def TreeSamesUptoCardSaid : Prop := Claim7.holds Tryz.pinned (.plain (OpenSpec.upto treeSamesSpec)) treeSamesUptoCard

/-- THE SECOND FORM's CARD OF 'emendlaw3.TreeCompares'. -/
def treeComparesUptoCard : Claim7 := { stood := { row := treeComparesUptoRow, standIns := [], harness := (true, "dedfd39d7971c260efb8a7a7809d20f51ae7892b7182166e05c157c3579e16a5"), looks := true }, kinds := [], alts := [], laidByText := true, laidKinds := [.data, .data, .data, .data, .handle, .sentinel, .sentinel, .pinned], laidTests := true, laidLooks := .later }
def TreeComparesUptoCardSaid : Prop := Claim7.holds Tryz.pinned (.plain (OpenSpec.upto treeComparesSpec)) treeComparesUptoCard

/-- THE SECOND FORM's CARD OF 'emendlaw3.TreeOrder'. -/
def treeOrderUptoCard : Claim7 := { stood := { row := treeOrderUptoRow, standIns := [], harness := (true, "dedfd39d7971c260efb8a7a7809d20f51ae7892b7182166e05c157c3579e16a5"), looks := true }, kinds := [], alts := [], laidByText := true, laidKinds := [.data, .data, .data, .data, .handle, .sentinel, .sentinel, .pinned], laidTests := true, laidLooks := .later }
def TreeOrderUptoCardSaid : Prop := Claim7.holds Tryz.pinned (.plain (OpenSpec.upto treeOrderSpec)) treeOrderUptoCard

/-- THE SECOND FORM's CARD OF 'emendlaw3.TreeTexts'. -/
def treeTextsUptoCard : Claim7 := { stood := { row := treeTextsUptoRow, standIns := [], harness := (true, "dedfd39d7971c260efb8a7a7809d20f51ae7892b7182166e05c157c3579e16a5"), looks := true }, kinds := [], alts := [], laidByText := true, laidKinds := [.data, .data, .data, .data, .handle, .sentinel, .sentinel, .pinned], laidTests := true, laidLooks := .later }
def TreeTextsUptoCardSaid : Prop := Claim7.holds Tryz.pinned (.plain (OpenSpec.upto treeTextsSpec)) treeTextsUptoCard

/-- THE SECOND FORM's CARD OF 'emendlaw3.TreeParses'. -/
def treeParsesUptoCard : Claim7 := { stood := { row := treeParsesUptoRow, standIns := [], harness := (true, "dedfd39d7971c260efb8a7a7809d20f51ae7892b7182166e05c157c3579e16a5"), looks := true }, kinds := [], alts := [], laidByText := true, laidKinds := [.data, .data, .data, .data, .handle, .sentinel, .sentinel, .pinned], laidTests := true, laidLooks := .later }
def TreeParsesUptoCardSaid : Prop := Claim7.holds Tryz.pinned (.plain (OpenSpec.upto treeParsesSpec)) treeParsesUptoCard

/-- THE SECOND FORM's CARD OF 'emendlaw3.TreeBack'. -/
def treeBackUptoCard : Claim7 := { stood := { row := treeBackUptoRow, standIns := [], harness := (true, "dedfd39d7971c260efb8a7a7809d20f51ae7892b7182166e05c157c3579e16a5"), looks := true }, kinds := [], alts := [], laidByText := true, laidKinds := [.data, .data, .data, .data, .handle, .sentinel, .sentinel, .pinned], laidTests := true, laidLooks := .later }
def TreeBackUptoCardSaid : Prop := Claim7.holds Tryz.pinned (.plain (OpenSpec.upto treeBackSpec)) treeBackUptoCard

/-- THE SECOND FORM's CARD OF 'emendlaw3.TreeGets'. -/
def treeGetsUptoCard : Claim7 := { stood := { row := treeGetsUptoRow, standIns := [], harness := (true, "dedfd39d7971c260efb8a7a7809d20f51ae7892b7182166e05c157c3579e16a5"), looks := true }, kinds := [], alts := [], laidByText := true, laidKinds := [.data, .data, .data, .data, .handle, .sentinel, .sentinel, .pinned], laidTests := true, laidLooks := .later }
def TreeGetsUptoCardSaid : Prop := Claim7.holds Tryz.pinned (.plain (OpenSpec.upto treeGetsSpec)) treeGetsUptoCard

/-- THE SECOND FORM's CARD OF 'emendlaw3.TreeSetGet'. -/
def treeSetGetUptoCard : Claim7 := { stood := { row := treeSetGetUptoRow, standIns := [], harness := (true, "dedfd39d7971c260efb8a7a7809d20f51ae7892b7182166e05c157c3579e16a5"), looks := true }, kinds := [], alts := [], laidByText := true, laidKinds := [.data, .data, .data, .data, .handle, .sentinel, .sentinel, .pinned], laidTests := true, laidLooks := .later }
def TreeSetGetUptoCardSaid : Prop := Claim7.holds Tryz.pinned (.plain (OpenSpec.upto treeSetGetSpec)) treeSetGetUptoCard

/-- THE SECOND FORM's CARD OF 'emendlaw3.TreeTurned'. -/
def treeTurnedUptoCard : Claim7 := { stood := { row := treeTurnedUptoRow, standIns := [], harness := (true, "dedfd39d7971c260efb8a7a7809d20f51ae7892b7182166e05c157c3579e16a5"), looks := true }, kinds := [], alts := [], laidByText := true, laidKinds := [.data, .data, .data, .data, .handle, .sentinel, .sentinel, .pinned], laidTests := true, laidLooks := .later }
def TreeTurnedUptoCardSaid : Prop := Claim7.holds Tryz.pinned (.plain (OpenSpec.upto treeTurnedSpec)) treeTurnedUptoCard

/-- THE SECOND FORM's CARD OF 'emendlaw3.TreeLimits'. -/
def treeLimitsUptoCard : Claim7 := { stood := { row := treeLimitsUptoRow, standIns := [], harness := (true, "dedfd39d7971c260efb8a7a7809d20f51ae7892b7182166e05c157c3579e16a5"), looks := true }, kinds := [], alts := [], laidByText := true, laidKinds := [.data, .data, .data, .data, .handle, .sentinel, .sentinel, .pinned], laidTests := true, laidLooks := .later }
def TreeLimitsUptoCardSaid : Prop := Claim7.holds Tryz.pinned (.plain (OpenSpec.upto treeLimitsSpec)) treeLimitsUptoCard
end Rows
end Go.Proofs.YthgidapmofcloaaGreatDoor
