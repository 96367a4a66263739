/-
  DERIVED. GIVEN WITH THE SEED: THE CARDS: each row of YtgpodcjhgdionaaGreatDoorRows.lean that lists a variable, with what it lists TIED to the program's text (the seventh form; the later family's looks); each row that meets fmt, with fmt's text TOLD by the authors' own Lean function (tested against real Go, not proved from fmt's source: count such statements apart). THE CARD IS WHAT COUNTS. Prove the row's statement (the work); the ties are given (YtgpodcjhgdionaaGreatDoorTie.lean); close each card by the builder's one call (the guide's Derived/Test/ToyasCard.lean, 'card_holds'). Laid BY PROGRAM, IN A SANDBOX (cutbox-door.mjs). By AI agents, Wed Nov 11 2026. No macro, syntax, notation, axiom, sorry.
-/
import Derived.Test.YtgpodcjhgdionaaGreatDoorRows
import GoSem.ClaimSeven
namespace Go.Proofs.YtgpodcjhgdionaaGreatDoor
namespace Rows

/-- THE TIED CARD OF 'selfstabtop.TopWorstIsPlayed'. -/
def topWorstIsPlayedCard : Claim7 := { stood := { row := topWorstIsPlayedRow, standIns := [], harness := (true, "94be43b69db527272d56cb63c6cd875f579272496a253d807bee1ef7b1877b16"), looks := true }, kinds := [], alts := [], laidByText := true, laidKinds := [.data], laidTests := true, laidLooks := .later }
def TopWorstIsPlayedCardSaid : Prop := Claim7.holds Tryz.pinned (.plain (OpenSpec.ofChange topWorstIsPlayedSpec)) topWorstIsPlayedCard

/-- THE TIED CARD OF 'selfstabtop.TopCertificatesBoundRuns'. -/
def topCertificatesBoundRunsCard : Claim7 := { stood := { row := topCertificatesBoundRunsRow, standIns := [], harness := (true, "94be43b69db527272d56cb63c6cd875f579272496a253d807bee1ef7b1877b16"), looks := true }, kinds := [], alts := [], laidByText := true, laidKinds := [.data], laidTests := true, laidLooks := .later }
def TopCertificatesBoundRunsCardSaid : Prop := Claim7.holds Tryz.pinned (.plain (OpenSpec.ofChange topCertificatesBoundRunsSpec)) topCertificatesBoundRunsCard

/-- THE SECOND FORM's CARD OF 'selfstabtop.TopWorstIsPlayed'. -/
def topWorstIsPlayedUptoCard : Claim7 := { stood := { row := topWorstIsPlayedUptoRow, standIns := [], harness := (true, "94be43b69db527272d56cb63c6cd875f579272496a253d807bee1ef7b1877b16"), looks := true }, kinds := [], alts := [], laidByText := true, laidKinds := [.data], laidTests := true, laidLooks := .later }
def TopWorstIsPlayedUptoCardSaid : Prop := Claim7.holds Tryz.pinned (.plain (OpenSpec.upto topWorstIsPlayedSpec)) topWorstIsPlayedUptoCard

/-- THE SECOND FORM's CARD OF 'selfstabtop.TopCertificatesBoundRuns'. -/
def topCertificatesBoundRunsUptoCard : Claim7 := { stood := { row := topCertificatesBoundRunsUptoRow, standIns := [], harness := (true, "94be43b69db527272d56cb63c6cd875f579272496a253d807bee1ef7b1877b16"), looks := true }, kinds := [], alts := [], laidByText := true, laidKinds := [.data], laidTests := true, laidLooks := .later }
def TopCertificatesBoundRunsUptoCardSaid : Prop := Claim7.holds Tryz.pinned (.plain (OpenSpec.upto topCertificatesBoundRunsSpec)) topCertificatesBoundRunsUptoCard
end Rows
end Go.Proofs.YtgpodcjhgdionaaGreatDoor
