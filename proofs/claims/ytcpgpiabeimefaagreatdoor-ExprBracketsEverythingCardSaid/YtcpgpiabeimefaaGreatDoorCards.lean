/-
  DERIVED. GIVEN WITH THE SEED: THE CARDS: each row of YtcpgpiabeimefaaGreatDoorRows.lean that lists a variable, with what it lists TIED to the program's text (the seventh form; the later family's looks); each row that meets fmt, with fmt's text TOLD by the authors' own Lean function (tested against real Go, not proved from fmt's source: count such statements apart). THE CARD IS WHAT COUNTS. Prove the row's statement (the work); the ties are given (YtcpgpiabeimefaaGreatDoorTie.lean); close each card by the builder's one call (the guide's Derived/Test/ToyasCard.lean, 'card_holds'). Laid BY PROGRAM, IN A SANDBOX (cutbox-door.mjs). By AI agents, Wed Nov 11 2026. No macro, syntax, notation, axiom, sorry.
-/
import Derived.Test.YtcpgpiabeimefaaGreatDoorRows
import GoSem.ClaimSeven
namespace Go.Proofs.YtcpgpiabeimefaaGreatDoor
namespace Rows

/-- THE TIED CARD OF 'selfstablaw06.ExprParses'. -/
def exprParsesCard : Claim7 := { stood := { row := exprParsesRow, standIns := [], harness := (true, "5591e28f5e3413efc471a6bd0595e3b688da578c33ec271537fa3680c3937c1f"), looks := true }, kinds := [], alts := [], laidByText := true, laidKinds := [.data, .data, .data], laidTests := true, laidLooks := .later }
def ExprParsesCardSaid : Prop := Claim7.holds Tryz.pinned (.plain (OpenSpec.ofChange exprParsesSpec)) exprParsesCard

/-- THE TIED CARD OF 'selfstablaw06.ExprFormats'. -/
def exprFormatsCard : Claim7 := { stood := { row := exprFormatsRow, standIns := [], harness := (true, "5591e28f5e3413efc471a6bd0595e3b688da578c33ec271537fa3680c3937c1f"), looks := true }, kinds := [], alts := [], laidByText := true, laidKinds := [.data, .data, .data], laidTests := true, laidLooks := .later }
def ExprFormatsCardSaid : Prop := Claim7.holds Tryz.pinned (.plain (OpenSpec.ofChange exprFormatsSpec)) exprFormatsCard

/-- THE TIED CARD OF 'selfstablaw06.ExprReadsBack'. -/
def exprReadsBackCard : Claim7 := { stood := { row := exprReadsBackRow, standIns := [], harness := (true, "5591e28f5e3413efc471a6bd0595e3b688da578c33ec271537fa3680c3937c1f"), looks := true }, kinds := [], alts := [], laidByText := true, laidKinds := [.data, .data, .data], laidTests := true, laidLooks := .later }
def ExprReadsBackCardSaid : Prop := Claim7.holds Tryz.pinned (.plain (OpenSpec.ofChange exprReadsBackSpec)) exprReadsBackCard

/-- THE TIED CARD OF 'selfstablaw06.ExprIgnoresBrackets'. -/
def exprIgnoresBracketsCard : Claim7 := { stood := { row := exprIgnoresBracketsRow, standIns := [], harness := (true, "5591e28f5e3413efc471a6bd0595e3b688da578c33ec271537fa3680c3937c1f"), looks := true }, kinds := [], alts := [], laidByText := true, laidKinds := [.data, .data, .data], laidTests := true, laidLooks := .later }
def ExprIgnoresBracketsCardSaid : Prop := Claim7.holds Tryz.pinned (.plain (OpenSpec.ofChange exprIgnoresBracketsSpec)) exprIgnoresBracketsCard

/-- THE TIED CARD OF 'selfstablaw06.ExprBracketsEverything'. -/
def exprBracketsEverythingCard : Claim7 := { stood := { row := exprBracketsEverythingRow, standIns := [], harness := (true, "5591e28f5e3413efc471a6bd0595e3b688da578c33ec271537fa3680c3937c1f"), looks := true }, kinds := [], alts := [], laidByText := true, laidKinds := [.data, .data, .data], laidTests := true, laidLooks := .later }
def ExprBracketsEverythingCardSaid : Prop := Claim7.holds Tryz.pinned (.plain (OpenSpec.ofChange exprBracketsEverythingSpec)) exprBracketsEverythingCard

/-- THE TIED CARD OF 'selfstablaw06.ExprIsStable'. -/
def exprIsStableCard : Claim7 := { stood := { row := exprIsStableRow, standIns := [], harness := (true, "5591e28f5e3413efc471a6bd0595e3b688da578c33ec271537fa3680c3937c1f"), looks := true }, kinds := [], alts := [], laidByText := true, laidKinds := [.data, .data, .data], laidTests := true, laidLooks := .later }
def ExprIsStableCardSaid : Prop := Claim7.holds Tryz.pinned (.plain (OpenSpec.ofChange exprIsStableSpec)) exprIsStableCard

/-- THE SECOND FORM's CARD OF 'selfstablaw06.ExprParses'. -/
def exprParsesUptoCard : Claim7 := { stood := { row := exprParsesUptoRow, standIns := [], harness := (true, "5591e28f5e3413efc471a6bd0595e3b688da578c33ec271537fa3680c3937c1f"), looks := true }, kinds := [], alts := [], laidByText := true, laidKinds := [.data, .data, .data], laidTests := true, laidLooks := .later }
def ExprParsesUptoCardSaid : Prop := Claim7.holds Tryz.pinned (.plain (OpenSpec.upto exprParsesSpec)) exprParsesUptoCard

/-- THE SECOND FORM's CARD OF 'selfstablaw06.ExprFormats'. -/
def exprFormatsUptoCard : Claim7 := { stood := { row := exprFormatsUptoRow, standIns := [], harness := (true, "5591e28f5e3413efc471a6bd0595e3b688da578c33ec271537fa3680c3937c1f"), looks := true }, kinds := [], alts := [], laidByText := true, laidKinds := [.data, .data, .data], laidTests := true, laidLooks := .later }
def ExprFormatsUptoCardSaid : Prop := Claim7.holds Tryz.pinned (.plain (OpenSpec.upto exprFormatsSpec)) exprFormatsUptoCard

/-- THE SECOND FORM's CARD OF 'selfstablaw06.ExprReadsBack'. -/
def exprReadsBackUptoCard : Claim7 := { stood := { row := exprReadsBackUptoRow, standIns := [], harness := (true, "5591e28f5e3413efc471a6bd0595e3b688da578c33ec271537fa3680c3937c1f"), looks := true }, kinds := [], alts := [], laidByText := true, laidKinds := [.data, .data, .data], laidTests := true, laidLooks := .later }
def ExprReadsBackUptoCardSaid : Prop := Claim7.holds Tryz.pinned (.plain (OpenSpec.upto exprReadsBackSpec)) exprReadsBackUptoCard

/-- THE SECOND FORM's CARD OF 'selfstablaw06.ExprIgnoresBrackets'. -/
def exprIgnoresBracketsUptoCard : Claim7 := { stood := { row := exprIgnoresBracketsUptoRow, standIns := [], harness := (true, "5591e28f5e3413efc471a6bd0595e3b688da578c33ec271537fa3680c3937c1f"), looks := true }, kinds := [], alts := [], laidByText := true, laidKinds := [.data, .data, .data], laidTests := true, laidLooks := .later }
def ExprIgnoresBracketsUptoCardSaid : Prop := Claim7.holds Tryz.pinned (.plain (OpenSpec.upto exprIgnoresBracketsSpec)) exprIgnoresBracketsUptoCard

/-- THE SECOND FORM's CARD OF 'selfstablaw06.ExprBracketsEverything'. -/
def exprBracketsEverythingUptoCard : Claim7 := { stood := { row := exprBracketsEverythingUptoRow, standIns := [], harness := (true, "5591e28f5e3413efc471a6bd0595e3b688da578c33ec271537fa3680c3937c1f"), looks := true }, kinds := [], alts := [], laidByText := true, laidKinds := [.data, .data, .data], laidTests := true, laidLooks := .later }
def ExprBracketsEverythingUptoCardSaid : Prop := Claim7.holds Tryz.pinned (.plain (OpenSpec.upto exprBracketsEverythingSpec)) exprBracketsEverythingUptoCard

/-- THE SECOND FORM's CARD OF 'selfstablaw06.ExprIsStable'. -/
def exprIsStableUptoCard : Claim7 := { stood := { row := exprIsStableUptoRow, standIns := [], harness := (true, "5591e28f5e3413efc471a6bd0595e3b688da578c33ec271537fa3680c3937c1f"), looks := true }, kinds := [], alts := [], laidByText := true, laidKinds := [.data, .data, .data], laidTests := true, laidLooks := .later }
def ExprIsStableUptoCardSaid : Prop := Claim7.holds Tryz.pinned (.plain (OpenSpec.upto exprIsStableSpec)) exprIsStableUptoCard
end Rows
end Go.Proofs.YtcpgpiabeimefaaGreatDoor
