/-
  DERIVED. GIVEN WITH THE SEED: THE CARDS: each row of YtkjcjenkepejgaaDoorRows.lean that lists a variable, with what it lists TIED to the program's text (the seventh form; the later family's looks); each row that meets fmt, with fmt's text TOLD by the authors' own Lean function (tested against real Go, not proved from fmt's source: count such statements apart). THE CARD IS WHAT COUNTS. Prove the row's statement (the work); the ties are given (YtkjcjenkepejgaaDoorTie.lean); close each card by the builder's one call (the guide's Derived/Test/ToyasCard.lean, 'card_holds'). Laid BY PROGRAM, IN A SANDBOX (cutbox-door.mjs). By AI agents, Wed Nov 11 2026. No macro, syntax, notation, axiom, sorry.
-/
import Derived.Test.YtkjcjenkepejgaaDoorRows
import GoSem.ClaimSeven
namespace Go.Proofs.YtkjcjenkepejgaaDoor
namespace Rows

/-- THE TIED CARD OF 'selfstablaw02.GraphtextFormats'. -/
def graphtextFormatsCard : Claim7 := { stood := { row := graphtextFormatsRow, standIns := [], harness := (true, "3a2ed7a7ebbec0874f979323732dedcc9753cc6c4db8c7c946ee3b987c5c4c6a"), looks := false }, kinds := [], alts := [], laidByText := true, laidKinds := [.data, .data, .data, .data, .pinned], laidTests := true, laidLooks := .later }
def GraphtextFormatsCardSaid : Prop := Claim7.holds Tryd.pinned (.plain (OpenSpec.ofChange graphtextFormatsSpec)) graphtextFormatsCard

/-- THE TIED CARD OF 'selfstablaw02.GraphtextReadsBack'. -/
def graphtextReadsBackCard : Claim7 := { stood := { row := graphtextReadsBackRow, standIns := [], harness := (true, "3a2ed7a7ebbec0874f979323732dedcc9753cc6c4db8c7c946ee3b987c5c4c6a"), looks := false }, kinds := [], alts := [], laidByText := true, laidKinds := [.data, .data, .data, .data, .pinned], laidTests := true, laidLooks := .later }
def GraphtextReadsBackCardSaid : Prop := Claim7.holds Tryd.pinned (.plain (OpenSpec.ofChange graphtextReadsBackSpec)) graphtextReadsBackCard

/-- THE TIED CARD OF 'selfstablaw02.GraphtextWritesBack'. -/
def graphtextWritesBackCard : Claim7 := { stood := { row := graphtextWritesBackRow, standIns := [], harness := (true, "3a2ed7a7ebbec0874f979323732dedcc9753cc6c4db8c7c946ee3b987c5c4c6a"), looks := false }, kinds := [], alts := [], laidByText := true, laidKinds := [.data, .data, .data, .data, .pinned], laidTests := true, laidLooks := .later }
def GraphtextWritesBackCardSaid : Prop := Claim7.holds Tryd.pinned (.plain (OpenSpec.ofChange graphtextWritesBackSpec)) graphtextWritesBackCard

/-- THE TIED CARD OF 'selfstablaw02.GraphtextTellsGraphsApart'. -/
def graphtextTellsGraphsApartCard : Claim7 := { stood := { row := graphtextTellsGraphsApartRow, standIns := [], harness := (true, "3a2ed7a7ebbec0874f979323732dedcc9753cc6c4db8c7c946ee3b987c5c4c6a"), looks := false }, kinds := [], alts := [], laidByText := true, laidKinds := [.data, .data, .data, .data, .pinned], laidTests := true, laidLooks := .later }
def GraphtextTellsGraphsApartCardSaid : Prop := Claim7.holds Tryd.pinned (.plain (OpenSpec.ofChange graphtextTellsGraphsApartSpec)) graphtextTellsGraphsApartCard

/-- THE SECOND FORM's CARD OF 'selfstablaw02.GraphtextFormats'. -/
def graphtextFormatsUptoCard : Claim7 := { stood := { row := graphtextFormatsUptoRow, standIns := [], harness := (true, "3a2ed7a7ebbec0874f979323732dedcc9753cc6c4db8c7c946ee3b987c5c4c6a"), looks := false }, kinds := [], alts := [], laidByText := true, laidKinds := [.data, .data, .data, .data, .pinned], laidTests := true, laidLooks := .later }
def GraphtextFormatsUptoCardSaid : Prop := Claim7.holds Tryd.pinned (.plain (OpenSpec.upto graphtextFormatsSpec)) graphtextFormatsUptoCard

/-- THE SECOND FORM's CARD OF 'selfstablaw02.GraphtextReadsBack'. -/
def graphtextReadsBackUptoCard : Claim7 := { stood := { row := graphtextReadsBackUptoRow, standIns := [], harness := (true, "3a2ed7a7ebbec0874f979323732dedcc9753cc6c4db8c7c946ee3b987c5c4c6a"), looks := false }, kinds := [], alts := [], laidByText := true, laidKinds := [.data, .data, .data, .data, .pinned], laidTests := true, laidLooks := .later }
def GraphtextReadsBackUptoCardSaid : Prop := Claim7.holds Tryd.pinned (.plain (OpenSpec.upto graphtextReadsBackSpec)) graphtextReadsBackUptoCard

/-- THE SECOND FORM's CARD OF 'selfstablaw02.GraphtextWritesBack'. -/
def graphtextWritesBackUptoCard : Claim7 := { stood := { row := graphtextWritesBackUptoRow, standIns := [], harness := (true, "3a2ed7a7ebbec0874f979323732dedcc9753cc6c4db8c7c946ee3b987c5c4c6a"), looks := false }, kinds := [], alts := [], laidByText := true, laidKinds := [.data, .data, .data, .data, .pinned], laidTests := true, laidLooks := .later }
def GraphtextWritesBackUptoCardSaid : Prop := Claim7.holds Tryd.pinned (.plain (OpenSpec.upto graphtextWritesBackSpec)) graphtextWritesBackUptoCard

/-- THE SECOND FORM's CARD OF 'selfstablaw02.GraphtextTellsGraphsApart'. -/
def graphtextTellsGraphsApartUptoCard : Claim7 := { stood := { row := graphtextTellsGraphsApartUptoRow, standIns := [], harness := (true, "3a2ed7a7ebbec0874f979323732dedcc9753cc6c4db8c7c946ee3b987c5c4c6a"), looks := false }, kinds := [], alts := [], laidByText := true, laidKinds := [.data, .data, .data, .data, .pinned], laidTests := true, laidLooks := .later }
def GraphtextTellsGraphsApartUptoCardSaid : Prop := Claim7.holds Tryd.pinned (.plain (OpenSpec.upto graphtextTellsGraphsApartSpec)) graphtextTellsGraphsApartUptoCard
end Rows
end Go.Proofs.YtkjcjenkepejgaaDoor
