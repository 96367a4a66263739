/-
  No cell of these rows narrows 'for every input' (looked for: loops, veiled, ifaces, maps, wideKeys, modest, calm, conditions, laid).
  DERIVED. THE GIVEN ROWS OF THIS SEAT. 6 by the template 'for every input the law returns true; each argument reads behind the call as it read before'; 0 by the template 'total and deterministic' (their statements: YtmjcmldkbibhfaaTotals.lean).
  GIVEN WITH THE SEED: the statements are not yours to turn. If you find one false, say at which input.
  Laid BY PROGRAM, IN A SANDBOX (cutbox-rows.mjs): the forced cells as the released guide's own fill.sh prints them over the translation 12c012a19c87d922… (all of the seat's roots in one cut). By AI agents, Wed Nov 11 2026. No macro, syntax, notation, axiom, sorry.
-/
import Derived.Test.YtmjcmldkbibhfaaChecked
import GoSem.Claim
import GoSem.ClaimJoined
import GoSem.ClaimMapViews
import Derived.JoinedTies
import Derived.KernelRfl
namespace Go.Proofs.Ytmjcmldkbibhfaa
/- THE CELL 'sum', in the pinned program and in every row, IS THE sha256 OF THE DUMP (.gsa) THAT YtmjcmldkbibhfaaProg.lean LOADS. Nothing in Lean hashes anything: it is a label: what it is worth is what the hold of that sum in a sandbox is worth. -/
noncomputable def Try.pinned : Pinned := { name := "ytmjcmldkbibhfaa", sum := "12c012a19c87d922a8dc47beec570ecc90e501b492aa1a3d131adff3c5c6935c", checked := Try.checked }
namespace Rows
def none {H : Type} : Left H := { results := [], args := [] }

/-- 'selfstablaw09.DomainRanges': WHATEVER THE INPUT: true; the input reads as it did. -/
def domainRangesSpec : ChangeSpec := { name := "domainRanges", fn := fun _ => fun
  | [d1, d2, d3, d4] => { results := [.lit (.bool true)], args := [d1, d2, d3, d4] }
  | _ => none }
def domainRangesRow : OpenClaim := { program := "ytmjcmldkbibhfaa", sum := "12c012a19c87d922a8dc47beec570ecc90e501b492aa1a3d131adff3c5c6935c", func := "selfstab/selfstablaw09.DomainRanges", spec := "domainRanges", unfollowed := true, recurses := true, plainKeys := false, apart := false }
def DomainRangesSaid : Prop := domainRangesRow.holds Try.pinned (OpenSpec.ofChange domainRangesSpec)

/-- ITS FALSE NEIGHBOUR: 'it returns false'. Refute it at one input. -/
def domainRangesWrong : ChangeSpec := { name := "domainRanges", fn := fun _ => fun
  | [d1, d2, d3, d4] => { results := [.lit (.bool false)], args := [d1, d2, d3, d4] }
  | _ => none }
def DomainRangesWrongFalsely : Prop := domainRangesRow.holds Try.pinned (OpenSpec.ofChange domainRangesWrong)

/-- 'selfstablaw09.DomainClampsOnce': WHATEVER THE INPUT: true; the input reads as it did. -/
def domainClampsOnceSpec : ChangeSpec := { name := "domainClampsOnce", fn := fun _ => fun
  | [d1, d2, d3, d4, d5, d6] => { results := [.lit (.bool true)], args := [d1, d2, d3, d4, d5, d6] }
  | _ => none }
def domainClampsOnceRow : OpenClaim := { program := "ytmjcmldkbibhfaa", sum := "12c012a19c87d922a8dc47beec570ecc90e501b492aa1a3d131adff3c5c6935c", func := "selfstab/selfstablaw09.DomainClampsOnce", spec := "domainClampsOnce", unfollowed := true, recurses := true, plainKeys := false, apart := false }
def DomainClampsOnceSaid : Prop := domainClampsOnceRow.holds Try.pinned (OpenSpec.ofChange domainClampsOnceSpec)

/-- ITS FALSE NEIGHBOUR: 'it returns false'. Refute it at one input. -/
def domainClampsOnceWrong : ChangeSpec := { name := "domainClampsOnce", fn := fun _ => fun
  | [d1, d2, d3, d4, d5, d6] => { results := [.lit (.bool false)], args := [d1, d2, d3, d4, d5, d6] }
  | _ => none }
def DomainClampsOnceWrongFalsely : Prop := domainClampsOnceRow.holds Try.pinned (OpenSpec.ofChange domainClampsOnceWrong)

/-- 'selfstablaw09.DomainIsTheSameEverywhere': WHATEVER THE INPUT: true; the input reads as it did. -/
def domainIsTheSameEverywhereSpec : ChangeSpec := { name := "domainIsTheSameEverywhere", fn := fun _ => fun
  | [d1, d2, d3, d4, d5] => { results := [.lit (.bool true)], args := [d1, d2, d3, d4, d5] }
  | _ => none }
def domainIsTheSameEverywhereRow : OpenClaim := { program := "ytmjcmldkbibhfaa", sum := "12c012a19c87d922a8dc47beec570ecc90e501b492aa1a3d131adff3c5c6935c", func := "selfstab/selfstablaw09.DomainIsTheSameEverywhere", spec := "domainIsTheSameEverywhere", unfollowed := true, recurses := true, plainKeys := false, apart := false }
def DomainIsTheSameEverywhereSaid : Prop := domainIsTheSameEverywhereRow.holds Try.pinned (OpenSpec.ofChange domainIsTheSameEverywhereSpec)

/-- ITS FALSE NEIGHBOUR: 'it returns false'. Refute it at one input. -/
def domainIsTheSameEverywhereWrong : ChangeSpec := { name := "domainIsTheSameEverywhere", fn := fun _ => fun
  | [d1, d2, d3, d4, d5] => { results := [.lit (.bool false)], args := [d1, d2, d3, d4, d5] }
  | _ => none }
def DomainIsTheSameEverywhereWrongFalsely : Prop := domainIsTheSameEverywhereRow.holds Try.pinned (OpenSpec.ofChange domainIsTheSameEverywhereWrong)

/-- 'selfstablaw09.DomainBrings': WHATEVER THE INPUT: true; the input reads as it did. -/
def domainBringsSpec : ChangeSpec := { name := "domainBrings", fn := fun _ => fun
  | [d1, d2, d3, d4, d5] => { results := [.lit (.bool true)], args := [d1, d2, d3, d4, d5] }
  | _ => none }
def domainBringsRow : OpenClaim := { program := "ytmjcmldkbibhfaa", sum := "12c012a19c87d922a8dc47beec570ecc90e501b492aa1a3d131adff3c5c6935c", func := "selfstab/selfstablaw09.DomainBrings", spec := "domainBrings", unfollowed := true, recurses := true, plainKeys := false, apart := false }
def DomainBringsSaid : Prop := domainBringsRow.holds Try.pinned (OpenSpec.ofChange domainBringsSpec)

/-- ITS FALSE NEIGHBOUR: 'it returns false'. Refute it at one input. -/
def domainBringsWrong : ChangeSpec := { name := "domainBrings", fn := fun _ => fun
  | [d1, d2, d3, d4, d5] => { results := [.lit (.bool false)], args := [d1, d2, d3, d4, d5] }
  | _ => none }
def DomainBringsWrongFalsely : Prop := domainBringsRow.holds Try.pinned (OpenSpec.ofChange domainBringsWrong)

/-- 'selfstablaw09.DomainSizesMultiply': WHATEVER THE INPUT: true; the input reads as it did. -/
def domainSizesMultiplySpec : ChangeSpec := { name := "domainSizesMultiply", fn := fun _ => fun
  | [d1, d2, d3] => { results := [.lit (.bool true)], args := [d1, d2, d3] }
  | _ => none }
def domainSizesMultiplyRow : OpenClaim := { program := "ytmjcmldkbibhfaa", sum := "12c012a19c87d922a8dc47beec570ecc90e501b492aa1a3d131adff3c5c6935c", func := "selfstab/selfstablaw09.DomainSizesMultiply", spec := "domainSizesMultiply", unfollowed := true, recurses := true, plainKeys := false, apart := false }
def DomainSizesMultiplySaid : Prop := domainSizesMultiplyRow.holds Try.pinned (OpenSpec.ofChange domainSizesMultiplySpec)

/-- ITS FALSE NEIGHBOUR: 'it returns false'. Refute it at one input. -/
def domainSizesMultiplyWrong : ChangeSpec := { name := "domainSizesMultiply", fn := fun _ => fun
  | [d1, d2, d3] => { results := [.lit (.bool false)], args := [d1, d2, d3] }
  | _ => none }
def DomainSizesMultiplyWrongFalsely : Prop := domainSizesMultiplyRow.holds Try.pinned (OpenSpec.ofChange domainSizesMultiplyWrong)

/-- 'selfstablaw10.MemoryRanksBack': WHATEVER THE INPUT: true; the input reads as it did. -/
def memoryRanksBackSpec : ChangeSpec := { name := "memoryRanksBack", fn := fun _ => fun
  | [d1, d2, d3, d4] => { results := [.lit (.bool true)], args := [d1, d2, d3, d4] }
  | _ => none }
def memoryRanksBackRow : OpenClaim := { program := "ytmjcmldkbibhfaa", sum := "12c012a19c87d922a8dc47beec570ecc90e501b492aa1a3d131adff3c5c6935c", func := "selfstab/selfstablaw10.MemoryRanksBack", spec := "memoryRanksBack", unfollowed := true, recurses := true, plainKeys := false, apart := false }
def MemoryRanksBackSaid : Prop := memoryRanksBackRow.holds Try.pinned (OpenSpec.ofChange memoryRanksBackSpec)

/-- ITS FALSE NEIGHBOUR: 'it returns false'. Refute it at one input. -/
def memoryRanksBackWrong : ChangeSpec := { name := "memoryRanksBack", fn := fun _ => fun
  | [d1, d2, d3, d4] => { results := [.lit (.bool false)], args := [d1, d2, d3, d4] }
  | _ => none }
def MemoryRanksBackWrongFalsely : Prop := memoryRanksBackRow.holds Try.pinned (OpenSpec.ofChange memoryRanksBackWrong)

/- THE SECOND FORM. 'bulk': how many values and letters a reading holds, each counted each time it is reached (what is shared counts as often as it is met; a slice's spare places count too). A statement '..UptoSaid' is the law's where the arguments, and the package variables that the reading takes, are together of bulk at most 1048576: NARROWER than '..Said'. Prove '..Said' where nothing that the law and all that it calls make is longer than what came in: it says more and counts as full. Else prove '..UptoSaid'. A law counts once. -/
mutual
def uptoBulk {H : Type} : DataW H → Nat
  | .lit (.string bytes) => bytes.length + 1
  | .lit _ => 1
  | .nil => 1
  | .ptr d => uptoBulk d + 1
  | .slice elems spare => uptoBulkAll elems + uptoBulkAll spare + 1
  | .agg parts => uptoBulkAll parts + 1
  | .iface _ d => uptoBulk d + 1
  | .map entries => uptoBulkEntries entries + 1
  | .held _ => 1
def uptoBulkAll {H : Type} : List (DataW H) → Nat
  | [] => 0
  | d :: r => uptoBulk d + uptoBulkAll r
def uptoBulkEntries {H : Type} : List (Lit × DataW H) → Nat
  | [] => 0
  | x :: r => uptoBulkEntry x + uptoBulkEntries r
def uptoBulkEntry {H : Type} : Lit × DataW H → Nat
  | (.string bytes, d) => bytes.length + uptoBulk d + 1
  | (_, d) => uptoBulk d + 1
 end
def uptoSmall : (H : Type) → List (DataW H) → Bool := fun _ ds => decide (uptoBulkAll ds ≤ 1048576)
def OpenSpec.upto (s : _root_.Go.ChangeSpec) : _root_.Go.OpenSpec := { _root_.Go.OpenSpec.ofChange s with cond := some uptoSmall }

/-- 'selfstablaw09.DomainRanges', WHERE WHAT IT READS IS OF BULK AT MOST 1048576: true; the input reads as it did. -/
def domainRangesUptoRow : OpenClaim := { program := "ytmjcmldkbibhfaa", sum := "12c012a19c87d922a8dc47beec570ecc90e501b492aa1a3d131adff3c5c6935c", func := "selfstab/selfstablaw09.DomainRanges", spec := "domainRanges", unfollowed := true, recurses := true, plainKeys := false, apart := false, narrowed := true }
def DomainRangesUptoSaid : Prop := domainRangesUptoRow.holds Try.pinned (OpenSpec.upto domainRangesSpec)

/-- 'selfstablaw09.DomainClampsOnce', WHERE WHAT IT READS IS OF BULK AT MOST 1048576: true; the input reads as it did. -/
def domainClampsOnceUptoRow : OpenClaim := { program := "ytmjcmldkbibhfaa", sum := "12c012a19c87d922a8dc47beec570ecc90e501b492aa1a3d131adff3c5c6935c", func := "selfstab/selfstablaw09.DomainClampsOnce", spec := "domainClampsOnce", unfollowed := true, recurses := true, plainKeys := false, apart := false, narrowed := true }
def DomainClampsOnceUptoSaid : Prop := domainClampsOnceUptoRow.holds Try.pinned (OpenSpec.upto domainClampsOnceSpec)

/-- 'selfstablaw09.DomainIsTheSameEverywhere', WHERE WHAT IT READS IS OF BULK AT MOST 1048576: true; the input reads as it did. -/
def domainIsTheSameEverywhereUptoRow : OpenClaim := { program := "ytmjcmldkbibhfaa", sum := "12c012a19c87d922a8dc47beec570ecc90e501b492aa1a3d131adff3c5c6935c", func := "selfstab/selfstablaw09.DomainIsTheSameEverywhere", spec := "domainIsTheSameEverywhere", unfollowed := true, recurses := true, plainKeys := false, apart := false, narrowed := true }
def DomainIsTheSameEverywhereUptoSaid : Prop := domainIsTheSameEverywhereUptoRow.holds Try.pinned (OpenSpec.upto domainIsTheSameEverywhereSpec)

/-- 'selfstablaw09.DomainBrings', WHERE WHAT IT READS IS OF BULK AT MOST 1048576: true; the input reads as it did. -/
def domainBringsUptoRow : OpenClaim := { program := "ytmjcmldkbibhfaa", sum := "12c012a19c87d922a8dc47beec570ecc90e501b492aa1a3d131adff3c5c6935c", func := "selfstab/selfstablaw09.DomainBrings", spec := "domainBrings", unfollowed := true, recurses := true, plainKeys := false, apart := false, narrowed := true }
def DomainBringsUptoSaid : Prop := domainBringsUptoRow.holds Try.pinned (OpenSpec.upto domainBringsSpec)

/-- 'selfstablaw09.DomainSizesMultiply', WHERE WHAT IT READS IS OF BULK AT MOST 1048576: true; the input reads as it did. -/
def domainSizesMultiplyUptoRow : OpenClaim := { program := "ytmjcmldkbibhfaa", sum := "12c012a19c87d922a8dc47beec570ecc90e501b492aa1a3d131adff3c5c6935c", func := "selfstab/selfstablaw09.DomainSizesMultiply", spec := "domainSizesMultiply", unfollowed := true, recurses := true, plainKeys := false, apart := false, narrowed := true }
def DomainSizesMultiplyUptoSaid : Prop := domainSizesMultiplyUptoRow.holds Try.pinned (OpenSpec.upto domainSizesMultiplySpec)

/-- 'selfstablaw10.MemoryRanksBack', WHERE WHAT IT READS IS OF BULK AT MOST 1048576: true; the input reads as it did. -/
def memoryRanksBackUptoRow : OpenClaim := { program := "ytmjcmldkbibhfaa", sum := "12c012a19c87d922a8dc47beec570ecc90e501b492aa1a3d131adff3c5c6935c", func := "selfstab/selfstablaw10.MemoryRanksBack", spec := "memoryRanksBack", unfollowed := true, recurses := true, plainKeys := false, apart := false, narrowed := true }
def MemoryRanksBackUptoSaid : Prop := memoryRanksBackUptoRow.holds Try.pinned (OpenSpec.upto memoryRanksBackSpec)

end Rows
end Go.Proofs.Ytmjcmldkbibhfaa
