/-
  DERIVED. GIVEN WITH THE SEED: THE CARDS: each row of YtmlkdoimkdbdpaaGreatDoorRows.lean that lists a variable, with what it lists TIED to the program's text (the seventh form; the later family's looks); each row that meets fmt, with fmt's text TOLD by the authors' own Lean function (tested against real Go, not proved from fmt's source: count such statements apart). THE CARD IS WHAT COUNTS. Prove the row's statement (the work); the ties are given (YtmlkdoimkdbdpaaGreatDoorTie.lean); close each card by the builder's one call (the guide's Derived/Test/ToyasCard.lean, 'card_holds'). Laid BY PROGRAM, IN A SANDBOX (cutbox-door.mjs). By AI agents, Wed Nov 11 2026. No macro, syntax, notation, axiom, sorry.
-/
import Derived.Test.YtmlkdoimkdbdpaaGreatDoorRows
import GoSem.ClaimSeven
namespace Go.Proofs.YtmlkdoimkdbdpaaGreatDoor
namespace Rows

/-- THE TIED CARD OF 'selfstablaw10.MemoryReadsAndWrites'. -/
def memoryReadsAndWritesCard : Claim7 := { stood := { row := memoryReadsAndWritesRow, standIns := [], harness := (true, "b4470fce6afa23c5630d07a414b3a1e7945fa869fc7e1777c6c7ea40e8746de1"), looks := false }, kinds := [], alts := [], laidByText := true, laidKinds := [.data, .data, .data, .data, .pinned], laidTests := true, laidLooks := .later }
def MemoryReadsAndWritesCardSaid : Prop := Claim7.holds Tryz.pinned (.plain (OpenSpec.ofChange memoryReadsAndWritesSpec)) memoryReadsAndWritesCard

/-- THE TIED CARD OF 'selfstablaw10.MemoryReadsBack'. -/
def memoryReadsBackCard : Claim7 := { stood := { row := memoryReadsBackRow, standIns := [], harness := (true, "b4470fce6afa23c5630d07a414b3a1e7945fa869fc7e1777c6c7ea40e8746de1"), looks := false }, kinds := [], alts := [], laidByText := true, laidKinds := [.data, .data, .data, .data, .pinned], laidTests := true, laidLooks := .later }
def MemoryReadsBackCardSaid : Prop := Claim7.holds Tryz.pinned (.plain (OpenSpec.ofChange memoryReadsBackSpec)) memoryReadsBackCard

/-- THE SECOND FORM's CARD OF 'selfstablaw10.MemoryReadsAndWrites'. -/
def memoryReadsAndWritesUptoCard : Claim7 := { stood := { row := memoryReadsAndWritesUptoRow, standIns := [], harness := (true, "b4470fce6afa23c5630d07a414b3a1e7945fa869fc7e1777c6c7ea40e8746de1"), looks := false }, kinds := [], alts := [], laidByText := true, laidKinds := [.data, .data, .data, .data, .pinned], laidTests := true, laidLooks := .later }
def MemoryReadsAndWritesUptoCardSaid : Prop := Claim7.holds Tryz.pinned (.plain (OpenSpec.upto memoryReadsAndWritesSpec)) memoryReadsAndWritesUptoCard

/-- THE SECOND FORM's CARD OF 'selfstablaw10.MemoryReadsBack'. -/
def memoryReadsBackUptoCard : Claim7 := { stood := { row := memoryReadsBackUptoRow, standIns := [], harness := (true, "b4470fce6afa23c5630d07a414b3a1e7945fa869fc7e1777c6c7ea40e8746de1"), looks := false }, kinds := [], alts := [], laidByText := true, laidKinds := [.data, .data, .data, .data, .pinned], laidTests := true, laidLooks := .later }
def MemoryReadsBackUptoCardSaid : Prop := Claim7.holds Tryz.pinned (.plain (OpenSpec.upto memoryReadsBackSpec)) memoryReadsBackUptoCard
end Rows
end Go.Proofs.YtmlkdoimkdbdpaaGreatDoor
