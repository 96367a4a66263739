/-
  DERIVED. GIVEN WITH THE SEED: THE CARDS: each row of YtafclpkjhflknaaDoorRows.lean that lists a variable, with what it lists TIED to the program's text (the seventh form; the later family's looks); each row that meets fmt, with fmt's text TOLD by the authors' own Lean function (tested against real Go, not proved from fmt's source: count such statements apart). THE CARD IS WHAT COUNTS. Prove the row's statement (the work); the ties are given (YtafclpkjhflknaaDoorTie.lean); close each card by the builder's one call (the guide's Derived/Test/ToyasCard.lean, 'card_holds'). Laid BY PROGRAM, IN A SANDBOX (cutbox-door.mjs). By AI agents, Wed Nov 11 2026. No macro, syntax, notation, axiom, sorry.
-/
import Derived.Test.YtafclpkjhflknaaDoorRows
import GoSem.ClaimSeven
namespace Go.Proofs.YtafclpkjhflknaaDoor
namespace Rows

/-- THE TIED CARD OF 'selfstablaw02.GraphtextParses'. -/
def graphtextParsesCard : Claim7 := { stood := { row := graphtextParsesRow, standIns := [], harness := (true, "49259c3cc20545b5fa02a74eaa1ad2d7c572fc43e299dd6fadc1999cd8c9463c"), looks := false }, kinds := [], alts := [], laidByText := true, laidKinds := [.data, .pinned], laidTests := true, laidLooks := .later }
def GraphtextParsesCardSaid : Prop := Claim7.holds Tryd.pinned (.plain (OpenSpec.ofChange graphtextParsesSpec)) graphtextParsesCard

/-- THE TIED CARD OF 'selfstablaw02.GraphtextNamesTheLine'. -/
def graphtextNamesTheLineCard : Claim7 := { stood := { row := graphtextNamesTheLineRow, standIns := [], harness := (true, "49259c3cc20545b5fa02a74eaa1ad2d7c572fc43e299dd6fadc1999cd8c9463c"), looks := false }, kinds := [], alts := [], laidByText := true, laidKinds := [.data, .pinned], laidTests := true, laidLooks := .later }
def GraphtextNamesTheLineCardSaid : Prop := Claim7.holds Tryd.pinned (.plain (OpenSpec.ofChange graphtextNamesTheLineSpec)) graphtextNamesTheLineCard

/-- THE SECOND FORM's CARD OF 'selfstablaw02.GraphtextParses'. -/
def graphtextParsesUptoCard : Claim7 := { stood := { row := graphtextParsesUptoRow, standIns := [], harness := (true, "49259c3cc20545b5fa02a74eaa1ad2d7c572fc43e299dd6fadc1999cd8c9463c"), looks := false }, kinds := [], alts := [], laidByText := true, laidKinds := [.data, .pinned], laidTests := true, laidLooks := .later }
def GraphtextParsesUptoCardSaid : Prop := Claim7.holds Tryd.pinned (.plain (OpenSpec.upto graphtextParsesSpec)) graphtextParsesUptoCard

/-- THE SECOND FORM's CARD OF 'selfstablaw02.GraphtextNamesTheLine'. -/
def graphtextNamesTheLineUptoCard : Claim7 := { stood := { row := graphtextNamesTheLineUptoRow, standIns := [], harness := (true, "49259c3cc20545b5fa02a74eaa1ad2d7c572fc43e299dd6fadc1999cd8c9463c"), looks := false }, kinds := [], alts := [], laidByText := true, laidKinds := [.data, .pinned], laidTests := true, laidLooks := .later }
def GraphtextNamesTheLineUptoCardSaid : Prop := Claim7.holds Tryd.pinned (.plain (OpenSpec.upto graphtextNamesTheLineSpec)) graphtextNamesTheLineUptoCard
end Rows
end Go.Proofs.YtafclpkjhflknaaDoor
