/-
  DERIVED. GIVEN WITH THE SEED: THE CARDS: each row of YthjebaophnkpbaaGreatDoorRows.lean that lists a variable, with what it lists TIED to the program's text (the seventh form; the later family's looks); each row that meets fmt, with fmt's text TOLD by the authors' own Lean function (tested against real Go, not proved from fmt's source: count such statements apart). THE CARD IS WHAT COUNTS. Prove the row's statement (the work); the ties are given (YthjebaophnkpbaaGreatDoorTie.lean); close each card by the builder's one call (the guide's Derived/Test/ToyasCard.lean, 'card_holds'). Laid BY PROGRAM, IN A SANDBOX (cutbox-door.mjs). By AI agents, Wed Nov 11 2026. No macro, syntax, notation, axiom, sorry.
-/
import Derived.Test.YthjebaophnkpbaaGreatDoorRows
import GoSem.ClaimSeven
namespace Go.Proofs.YthjebaophnkpbaaGreatDoor
namespace Rows

/-- THE TIED CARD OF 'emendlaw4.CstRuns'. -/
def cstRunsCard : Claim7 := { stood := { row := cstRunsRow, standIns := [], harness := (true, "e0ac1e29be01d13c6f6b2d559a64062ba23106c58bf4b023f2d117bdb8f0b6ae"), looks := true }, kinds := [], alts := [], laidByText := true, laidKinds := [.data, .data, .data, .data, .sentinel, .sentinel, .pinned], laidTests := true, laidLooks := .later }
def CstRunsCardSaid : Prop := Claim7.holds Tryz.pinned (.plain (OpenSpec.ofChange cstRunsSpec)) cstRunsCard

/-- THE TIED CARD OF 'emendlaw4.CstTells'. -/
def cstTellsCard : Claim7 := { stood := { row := cstTellsRow, standIns := [], harness := (true, "e0ac1e29be01d13c6f6b2d559a64062ba23106c58bf4b023f2d117bdb8f0b6ae"), looks := true }, kinds := [], alts := [], laidByText := true, laidKinds := [.data, .data, .data, .data, .sentinel, .sentinel, .pinned], laidTests := true, laidLooks := .later }
def CstTellsCardSaid : Prop := Claim7.holds Tryz.pinned (.plain (OpenSpec.ofChange cstTellsSpec)) cstTellsCard

/-- THE TIED CARD OF 'emendlaw4.CstFinds'. -/
def cstFindsCard : Claim7 := { stood := { row := cstFindsRow, standIns := [], harness := (true, "e0ac1e29be01d13c6f6b2d559a64062ba23106c58bf4b023f2d117bdb8f0b6ae"), looks := true }, kinds := [], alts := [], laidByText := true, laidKinds := [.data, .data, .data, .data, .sentinel, .sentinel, .pinned], laidTests := true, laidLooks := .later }
def CstFindsCardSaid : Prop := Claim7.holds Tryz.pinned (.plain (OpenSpec.ofChange cstFindsSpec)) cstFindsCard

/-- THE TIED CARD OF 'emendlaw4.CstApart'. -/
def cstApartCard : Claim7 := { stood := { row := cstApartRow, standIns := [], harness := (true, "e0ac1e29be01d13c6f6b2d559a64062ba23106c58bf4b023f2d117bdb8f0b6ae"), looks := true }, kinds := [], alts := [], laidByText := true, laidKinds := [.data, .data, .data, .data, .sentinel, .sentinel, .pinned], laidTests := true, laidLooks := .later }
def CstApartCardSaid : Prop := Claim7.holds Tryz.pinned (.plain (OpenSpec.ofChange cstApartSpec)) cstApartCard

/-- THE TIED CARD OF 'emendlaw4.CstSpans'. -/
def cstSpansCard : Claim7 := { stood := { row := cstSpansRow, standIns := [], harness := (true, "e0ac1e29be01d13c6f6b2d559a64062ba23106c58bf4b023f2d117bdb8f0b6ae"), looks := true }, kinds := [], alts := [], laidByText := true, laidKinds := [.data, .data, .data, .data, .sentinel, .sentinel, .pinned], laidTests := true, laidLooks := .later }
def CstSpansCardSaid : Prop := Claim7.holds Tryz.pinned (.plain (OpenSpec.ofChange cstSpansSpec)) cstSpansCard

/-- THE SECOND FORM's CARD OF 'emendlaw4.CstRuns'. -/
def cstRunsUptoCard : Claim7 := { stood := { row := cstRunsUptoRow, standIns := [], harness := (true, "e0ac1e29be01d13c6f6b2d559a64062ba23106c58bf4b023f2d117bdb8f0b6ae"), looks := true }, kinds := [], alts := [], laidByText := true, laidKinds := [.data, .data, .data, .data, .sentinel, .sentinel, .pinned], laidTests := true, laidLooks := .later }
def CstRunsUptoCardSaid : Prop := Claim7.holds Tryz.pinned (.plain (OpenSpec.upto cstRunsSpec)) cstRunsUptoCard

/-- THE SECOND FORM's CARD OF 'emendlaw4.CstTells'. -/
def cstTellsUptoCard : Claim7 := { stood := { row := cstTellsUptoRow, standIns := [], harness := (true, "e0ac1e29be01d13c6f6b2d559a64062ba23106c58bf4b023f2d117bdb8f0b6ae"), looks := true }, kinds := [], alts := [], laidByText := true, laidKinds := [.data, .data, .data, .data, .sentinel, .sentinel, .pinned], laidTests := true, laidLooks := .later }
def CstTellsUptoCardSaid : Prop := Claim7.holds Tryz.pinned (.plain (OpenSpec.upto cstTellsSpec)) cstTellsUptoCard

/-- THE SECOND FORM's CARD OF 'emendlaw4.CstFinds'. -/
def cstFindsUptoCard : Claim7 := { stood := { row := cstFindsUptoRow, standIns := [], harness := (true, "e0ac1e29be01d13c6f6b2d559a64062ba23106c58bf4b023f2d117bdb8f0b6ae"), looks := true }, kinds := [], alts := [], laidByText := true, laidKinds := [.data, .data, .data, .data, .sentinel, .sentinel, .pinned], laidTests := true, laidLooks := .later }
def CstFindsUptoCardSaid : Prop := Claim7.holds Tryz.pinned (.plain (OpenSpec.upto cstFindsSpec)) cstFindsUptoCard

/-- THE SECOND FORM's CARD OF 'emendlaw4.CstApart'. -/
def cstApartUptoCard : Claim7 := { stood := { row := cstApartUptoRow, standIns := [], harness := (true, "e0ac1e29be01d13c6f6b2d559a64062ba23106c58bf4b023f2d117bdb8f0b6ae"), looks := true }, kinds := [], alts := [], laidByText := true, laidKinds := [.data, .data, .data, .data, .sentinel, .sentinel, .pinned], laidTests := true, laidLooks := .later }
def CstApartUptoCardSaid : Prop := Claim7.holds Tryz.pinned (.plain (OpenSpec.upto cstApartSpec)) cstApartUptoCard

/-- THE SECOND FORM's CARD OF 'emendlaw4.CstSpans'. -/
def cstSpansUptoCard : Claim7 := { stood := { row := cstSpansUptoRow, standIns := [], harness := (true, "e0ac1e29be01d13c6f6b2d559a64062ba23106c58bf4b023f2d117bdb8f0b6ae"), looks := true }, kinds := [], alts := [], laidByText := true, laidKinds := [.data, .data, .data, .data, .sentinel, .sentinel, .pinned], laidTests := true, laidLooks := .later }
def CstSpansUptoCardSaid : Prop := Claim7.holds Tryz.pinned (.plain (OpenSpec.upto cstSpansSpec)) cstSpansUptoCard
end Rows
end Go.Proofs.YthjebaophnkpbaaGreatDoor
