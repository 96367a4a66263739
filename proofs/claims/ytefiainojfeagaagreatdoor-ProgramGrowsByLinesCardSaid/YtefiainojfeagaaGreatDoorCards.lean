/-
  DERIVED. GIVEN WITH THE SEED: THE CARDS: each row of YtefiainojfeagaaGreatDoorRows.lean that lists a variable, with what it lists TIED to the program's text (the seventh form; the later family's looks); each row that meets fmt, with fmt's text TOLD by the authors' own Lean function (tested against real Go, not proved from fmt's source: count such statements apart). THE CARD IS WHAT COUNTS. Prove the row's statement (the work); the ties are given (YtefiainojfeagaaGreatDoorTie.lean); close each card by the builder's one call (the guide's Derived/Test/ToyasCard.lean, 'card_holds'). Laid BY PROGRAM, IN A SANDBOX (cutbox-door.mjs). By AI agents, Wed Nov 11 2026. No macro, syntax, notation, axiom, sorry.
-/
import Derived.Test.YtefiainojfeagaaGreatDoorRows
import GoSem.ClaimSeven
namespace Go.Proofs.YtefiainojfeagaaGreatDoor
namespace Rows

/-- THE TIED CARD OF 'selfstablaw08.ProgramFormats'. -/
def programFormatsCard : Claim7 := { stood := { row := programFormatsRow, standIns := [], harness := (true, "a03f58a1cc74f25c6c211bf1ce85069c16f050c064ee3b5ecc29b11fafdfb517"), looks := true }, kinds := [], alts := [], laidByText := true, laidKinds := [.data, .data, .data], laidTests := true, laidLooks := .later }
def ProgramFormatsCardSaid : Prop := Claim7.holds Tryz.pinned (.plain (OpenSpec.ofChange programFormatsSpec)) programFormatsCard

/-- THE TIED CARD OF 'selfstablaw08.ProgramReadsBack'. -/
def programReadsBackCard : Claim7 := { stood := { row := programReadsBackRow, standIns := [], harness := (true, "a03f58a1cc74f25c6c211bf1ce85069c16f050c064ee3b5ecc29b11fafdfb517"), looks := true }, kinds := [], alts := [], laidByText := true, laidKinds := [.data, .data, .data], laidTests := true, laidLooks := .later }
def ProgramReadsBackCardSaid : Prop := Claim7.holds Tryz.pinned (.plain (OpenSpec.ofChange programReadsBackSpec)) programReadsBackCard

/-- THE TIED CARD OF 'selfstablaw08.ProgramIgnoresBlanks'. -/
def programIgnoresBlanksCard : Claim7 := { stood := { row := programIgnoresBlanksRow, standIns := [], harness := (true, "a03f58a1cc74f25c6c211bf1ce85069c16f050c064ee3b5ecc29b11fafdfb517"), looks := true }, kinds := [], alts := [], laidByText := true, laidKinds := [.data, .data, .data], laidTests := true, laidLooks := .later }
def ProgramIgnoresBlanksCardSaid : Prop := Claim7.holds Tryz.pinned (.plain (OpenSpec.ofChange programIgnoresBlanksSpec)) programIgnoresBlanksCard

/-- THE TIED CARD OF 'selfstablaw08.ProgramGrowsByLines'. -/
def programGrowsByLinesCard : Claim7 := { stood := { row := programGrowsByLinesRow, standIns := [], harness := (true, "a03f58a1cc74f25c6c211bf1ce85069c16f050c064ee3b5ecc29b11fafdfb517"), looks := true }, kinds := [], alts := [], laidByText := true, laidKinds := [.data, .data, .data], laidTests := true, laidLooks := .later }
def ProgramGrowsByLinesCardSaid : Prop := Claim7.holds Tryz.pinned (.plain (OpenSpec.ofChange programGrowsByLinesSpec)) programGrowsByLinesCard

/-- THE TIED CARD OF 'selfstablaw08.ProgramTellsProgramsApart'. -/
def programTellsProgramsApartCard : Claim7 := { stood := { row := programTellsProgramsApartRow, standIns := [], harness := (true, "a03f58a1cc74f25c6c211bf1ce85069c16f050c064ee3b5ecc29b11fafdfb517"), looks := true }, kinds := [], alts := [], laidByText := true, laidKinds := [.data, .data, .data], laidTests := true, laidLooks := .later }
def ProgramTellsProgramsApartCardSaid : Prop := Claim7.holds Tryz.pinned (.plain (OpenSpec.ofChange programTellsProgramsApartSpec)) programTellsProgramsApartCard

/-- THE SECOND FORM's CARD OF 'selfstablaw08.ProgramFormats'. -/
def programFormatsUptoCard : Claim7 := { stood := { row := programFormatsUptoRow, standIns := [], harness := (true, "a03f58a1cc74f25c6c211bf1ce85069c16f050c064ee3b5ecc29b11fafdfb517"), looks := true }, kinds := [], alts := [], laidByText := true, laidKinds := [.data, .data, .data], laidTests := true, laidLooks := .later }
def ProgramFormatsUptoCardSaid : Prop := Claim7.holds Tryz.pinned (.plain (OpenSpec.upto programFormatsSpec)) programFormatsUptoCard

/-- THE SECOND FORM's CARD OF 'selfstablaw08.ProgramReadsBack'. -/
def programReadsBackUptoCard : Claim7 := { stood := { row := programReadsBackUptoRow, standIns := [], harness := (true, "a03f58a1cc74f25c6c211bf1ce85069c16f050c064ee3b5ecc29b11fafdfb517"), looks := true }, kinds := [], alts := [], laidByText := true, laidKinds := [.data, .data, .data], laidTests := true, laidLooks := .later }
def ProgramReadsBackUptoCardSaid : Prop := Claim7.holds Tryz.pinned (.plain (OpenSpec.upto programReadsBackSpec)) programReadsBackUptoCard

/-- THE SECOND FORM's CARD OF 'selfstablaw08.ProgramIgnoresBlanks'. -/
def programIgnoresBlanksUptoCard : Claim7 := { stood := { row := programIgnoresBlanksUptoRow, standIns := [], harness := (true, "a03f58a1cc74f25c6c211bf1ce85069c16f050c064ee3b5ecc29b11fafdfb517"), looks := true }, kinds := [], alts := [], laidByText := true, laidKinds := [.data, .data, .data], laidTests := true, laidLooks := .later }
def ProgramIgnoresBlanksUptoCardSaid : Prop := Claim7.holds Tryz.pinned (.plain (OpenSpec.upto programIgnoresBlanksSpec)) programIgnoresBlanksUptoCard

/-- THE SECOND FORM's CARD OF 'selfstablaw08.ProgramGrowsByLines'. -/
def programGrowsByLinesUptoCard : Claim7 := { stood := { row := programGrowsByLinesUptoRow, standIns := [], harness := (true, "a03f58a1cc74f25c6c211bf1ce85069c16f050c064ee3b5ecc29b11fafdfb517"), looks := true }, kinds := [], alts := [], laidByText := true, laidKinds := [.data, .data, .data], laidTests := true, laidLooks := .later }
def ProgramGrowsByLinesUptoCardSaid : Prop := Claim7.holds Tryz.pinned (.plain (OpenSpec.upto programGrowsByLinesSpec)) programGrowsByLinesUptoCard

/-- THE SECOND FORM's CARD OF 'selfstablaw08.ProgramTellsProgramsApart'. -/
def programTellsProgramsApartUptoCard : Claim7 := { stood := { row := programTellsProgramsApartUptoRow, standIns := [], harness := (true, "a03f58a1cc74f25c6c211bf1ce85069c16f050c064ee3b5ecc29b11fafdfb517"), looks := true }, kinds := [], alts := [], laidByText := true, laidKinds := [.data, .data, .data], laidTests := true, laidLooks := .later }
def ProgramTellsProgramsApartUptoCardSaid : Prop := Claim7.holds Tryz.pinned (.plain (OpenSpec.upto programTellsProgramsApartSpec)) programTellsProgramsApartUptoCard
end Rows
end Go.Proofs.YtefiainojfeagaaGreatDoor
