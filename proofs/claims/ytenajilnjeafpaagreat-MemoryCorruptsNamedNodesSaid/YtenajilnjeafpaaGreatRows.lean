/-
  No cell of these rows narrows 'for every input' (looked for: loops, veiled, ifaces, maps, wideKeys, modest, calm, conditions, laid).
  DERIVED. THE GIVEN ROWS OF THIS SEAT. 6 by the template 'for every input the law returns true; each argument reads behind the call as it read before'; 0 by the template 'total and deterministic' (their statements: YtenajilnjeafpaaGreatTotals.lean).
  GIVEN WITH THE SEED: the statements are not yours to turn. If you find one false, say at which input.
  Laid BY PROGRAM, IN A SANDBOX (cutbox-rows.mjs): the forced cells as the released guide's own fill.sh prints them over the translation 63dc51e9ad671730… (all of the seat's roots in one cut). By AI agents, Wed Nov 11 2026. No macro, syntax, notation, axiom, sorry.
-/
import Derived.Test.YtenajilnjeafpaaGreatChecked
import GoSem.Claim
import GoSem.ClaimJoined
import GoSem.ClaimMapViews
import Derived.JoinedTies
import Derived.KernelRfl
namespace Go.Proofs.YtenajilnjeafpaaGreat
/- THE CELL 'sum', in the pinned program and in every row, IS THE sha256 OF THE DUMP (.gsa) THAT YtenajilnjeafpaaGreatProg.lean LOADS. Nothing in Lean hashes anything: it is a label: what it is worth is what the hold of that sum in a sandbox is worth. -/
noncomputable def Tryz.pinned : Pinned := { name := "ytenajilnjeafpaagreat", sum := "63dc51e9ad671730eec313120c151023ead1619a08995e695ae22f8e5d0c2993", checked := Tryz.checked }
namespace Rows
def none {H : Type} : Left H := { results := [], args := [] }

/-- 'selfstablaw10.MemoryChecks': WHATEVER THE INPUT: true; the input reads as it did. -/
def memoryChecksSpec : ChangeSpec := { name := "memoryChecks", fn := fun _ => fun
  | [d1, d2, d3] => { results := [.lit (.bool true)], args := [d1, d2, d3] }
  | _ => none }
def memoryChecksRow : OpenClaim := { program := "ytenajilnjeafpaagreat", sum := "63dc51e9ad671730eec313120c151023ead1619a08995e695ae22f8e5d0c2993", func := "selfstab/selfstablaw10.MemoryChecks", spec := "memoryChecks", unfollowed := true, recurses := true, plainKeys := false, apart := false }
def MemoryChecksSaid : Prop := memoryChecksRow.holds Tryz.pinned (OpenSpec.ofChange memoryChecksSpec)

/-- ITS FALSE NEIGHBOUR: 'it returns false'. Refute it at one input. -/
def memoryChecksWrong : ChangeSpec := { name := "memoryChecks", fn := fun _ => fun
  | [d1, d2, d3] => { results := [.lit (.bool false)], args := [d1, d2, d3] }
  | _ => none }
def MemoryChecksWrongFalsely : Prop := memoryChecksRow.holds Tryz.pinned (OpenSpec.ofChange memoryChecksWrong)

/-- 'selfstablaw10.MemoryRanks': WHATEVER THE INPUT: true; the input reads as it did. -/
def memoryRanksSpec : ChangeSpec := { name := "memoryRanks", fn := fun _ => fun
  | [d1, d2, d3, d4] => { results := [.lit (.bool true)], args := [d1, d2, d3, d4] }
  | _ => none }
def memoryRanksRow : OpenClaim := { program := "ytenajilnjeafpaagreat", sum := "63dc51e9ad671730eec313120c151023ead1619a08995e695ae22f8e5d0c2993", func := "selfstab/selfstablaw10.MemoryRanks", spec := "memoryRanks", unfollowed := true, recurses := true, plainKeys := false, apart := false }
def MemoryRanksSaid : Prop := memoryRanksRow.holds Tryz.pinned (OpenSpec.ofChange memoryRanksSpec)

/-- ITS FALSE NEIGHBOUR: 'it returns false'. Refute it at one input. -/
def memoryRanksWrong : ChangeSpec := { name := "memoryRanks", fn := fun _ => fun
  | [d1, d2, d3, d4] => { results := [.lit (.bool false)], args := [d1, d2, d3, d4] }
  | _ => none }
def MemoryRanksWrongFalsely : Prop := memoryRanksRow.holds Tryz.pinned (OpenSpec.ofChange memoryRanksWrong)

/-- 'selfstablaw10.MemoryCarries': WHATEVER THE INPUT: true; the input reads as it did. -/
def memoryCarriesSpec : ChangeSpec := { name := "memoryCarries", fn := fun _ => fun
  | [d1, d2, d3, d4] => { results := [.lit (.bool true)], args := [d1, d2, d3, d4] }
  | _ => none }
def memoryCarriesRow : OpenClaim := { program := "ytenajilnjeafpaagreat", sum := "63dc51e9ad671730eec313120c151023ead1619a08995e695ae22f8e5d0c2993", func := "selfstab/selfstablaw10.MemoryCarries", spec := "memoryCarries", unfollowed := true, recurses := true, plainKeys := false, apart := false }
def MemoryCarriesSaid : Prop := memoryCarriesRow.holds Tryz.pinned (OpenSpec.ofChange memoryCarriesSpec)

/-- ITS FALSE NEIGHBOUR: 'it returns false'. Refute it at one input. -/
def memoryCarriesWrong : ChangeSpec := { name := "memoryCarries", fn := fun _ => fun
  | [d1, d2, d3, d4] => { results := [.lit (.bool false)], args := [d1, d2, d3, d4] }
  | _ => none }
def MemoryCarriesWrongFalsely : Prop := memoryCarriesRow.holds Tryz.pinned (OpenSpec.ofChange memoryCarriesWrong)

/-- 'selfstablaw10.MemoryCarriesToItself': WHATEVER THE INPUT: true; the input reads as it did. -/
def memoryCarriesToItselfSpec : ChangeSpec := { name := "memoryCarriesToItself", fn := fun _ => fun
  | [d1, d2, d3, d4] => { results := [.lit (.bool true)], args := [d1, d2, d3, d4] }
  | _ => none }
def memoryCarriesToItselfRow : OpenClaim := { program := "ytenajilnjeafpaagreat", sum := "63dc51e9ad671730eec313120c151023ead1619a08995e695ae22f8e5d0c2993", func := "selfstab/selfstablaw10.MemoryCarriesToItself", spec := "memoryCarriesToItself", unfollowed := true, recurses := true, plainKeys := false, apart := false }
def MemoryCarriesToItselfSaid : Prop := memoryCarriesToItselfRow.holds Tryz.pinned (OpenSpec.ofChange memoryCarriesToItselfSpec)

/-- ITS FALSE NEIGHBOUR: 'it returns false'. Refute it at one input. -/
def memoryCarriesToItselfWrong : ChangeSpec := { name := "memoryCarriesToItself", fn := fun _ => fun
  | [d1, d2, d3, d4] => { results := [.lit (.bool false)], args := [d1, d2, d3, d4] }
  | _ => none }
def MemoryCarriesToItselfWrongFalsely : Prop := memoryCarriesToItselfRow.holds Tryz.pinned (OpenSpec.ofChange memoryCarriesToItselfWrong)

/-- 'selfstablaw10.MemoryChanges': WHATEVER THE INPUT: true; the input reads as it did. -/
def memoryChangesSpec : ChangeSpec := { name := "memoryChanges", fn := fun _ => fun
  | [d1, d2, d3, d4, d5] => { results := [.lit (.bool true)], args := [d1, d2, d3, d4, d5] }
  | _ => none }
def memoryChangesRow : OpenClaim := { program := "ytenajilnjeafpaagreat", sum := "63dc51e9ad671730eec313120c151023ead1619a08995e695ae22f8e5d0c2993", func := "selfstab/selfstablaw10.MemoryChanges", spec := "memoryChanges", unfollowed := true, recurses := true, plainKeys := false, apart := false }
def MemoryChangesSaid : Prop := memoryChangesRow.holds Tryz.pinned (OpenSpec.ofChange memoryChangesSpec)

/-- ITS FALSE NEIGHBOUR: 'it returns false'. Refute it at one input. -/
def memoryChangesWrong : ChangeSpec := { name := "memoryChanges", fn := fun _ => fun
  | [d1, d2, d3, d4, d5] => { results := [.lit (.bool false)], args := [d1, d2, d3, d4, d5] }
  | _ => none }
def MemoryChangesWrongFalsely : Prop := memoryChangesRow.holds Tryz.pinned (OpenSpec.ofChange memoryChangesWrong)

/-- 'selfstablaw10.MemoryCorruptsNamedNodes': WHATEVER THE INPUT: true; the input reads as it did. -/
def memoryCorruptsNamedNodesSpec : ChangeSpec := { name := "memoryCorruptsNamedNodes", fn := fun _ => fun
  | [d1, d2, d3, d4] => { results := [.lit (.bool true)], args := [d1, d2, d3, d4] }
  | _ => none }
def memoryCorruptsNamedNodesRow : OpenClaim := { program := "ytenajilnjeafpaagreat", sum := "63dc51e9ad671730eec313120c151023ead1619a08995e695ae22f8e5d0c2993", func := "selfstab/selfstablaw10.MemoryCorruptsNamedNodes", spec := "memoryCorruptsNamedNodes", unfollowed := true, recurses := true, plainKeys := false, apart := false }
def MemoryCorruptsNamedNodesSaid : Prop := memoryCorruptsNamedNodesRow.holds Tryz.pinned (OpenSpec.ofChange memoryCorruptsNamedNodesSpec)

/-- ITS FALSE NEIGHBOUR: 'it returns false'. Refute it at one input. -/
def memoryCorruptsNamedNodesWrong : ChangeSpec := { name := "memoryCorruptsNamedNodes", fn := fun _ => fun
  | [d1, d2, d3, d4] => { results := [.lit (.bool false)], args := [d1, d2, d3, d4] }
  | _ => none }
def MemoryCorruptsNamedNodesWrongFalsely : Prop := memoryCorruptsNamedNodesRow.holds Tryz.pinned (OpenSpec.ofChange memoryCorruptsNamedNodesWrong)

/- THE SECOND FORM. 'bulk': how many values and letters a reading holds, each counted each time it is reached (what is shared counts as often as it is met; a slice's spare places count too). A statement '..UptoSaid' is the law's where the arguments, and the package variables that the reading takes, are together of bulk at most 1048576: NARROWER than '..Said'. Prove '..Said' where nothing that the law and all that it calls make is longer than what came in: it says more and counts as full. Else prove '..UptoSaid'. A law counts once. -/
mutual
def uptoBulk {H : Type} : DataW H → Nat
  | .lit (.string bytes) => bytes.length + 1
  | .lit _ => 1
  | .nil => 1
  | .ptr d => uptoBulk d + 1
  | .slice elems spare => uptoBulkAll elems + uptoBulkAll spare + 1
  | .agg parts => uptoBulkAll parts + 1
  | .iface _ d => uptoBulk d + 1
  | .map entries => uptoBulkEntries entries + 1
  | .held _ => 1
def uptoBulkAll {H : Type} : List (DataW H) → Nat
  | [] => 0
  | d :: r => uptoBulk d + uptoBulkAll r
def uptoBulkEntries {H : Type} : List (Lit × DataW H) → Nat
  | [] => 0
  | x :: r => uptoBulkEntry x + uptoBulkEntries r
def uptoBulkEntry {H : Type} : Lit × DataW H → Nat
  | (.string bytes, d) => bytes.length + uptoBulk d + 1
  | (_, d) => uptoBulk d + 1
 end
def uptoSmall : (H : Type) → List (DataW H) → Bool := fun _ ds => decide (uptoBulkAll ds ≤ 1048576)
def OpenSpec.upto (s : _root_.Go.ChangeSpec) : _root_.Go.OpenSpec := { _root_.Go.OpenSpec.ofChange s with cond := some uptoSmall }

/-- 'selfstablaw10.MemoryChecks', WHERE WHAT IT READS IS OF BULK AT MOST 1048576: true; the input reads as it did. -/
def memoryChecksUptoRow : OpenClaim := { program := "ytenajilnjeafpaagreat", sum := "63dc51e9ad671730eec313120c151023ead1619a08995e695ae22f8e5d0c2993", func := "selfstab/selfstablaw10.MemoryChecks", spec := "memoryChecks", unfollowed := true, recurses := true, plainKeys := false, apart := false, narrowed := true }
def MemoryChecksUptoSaid : Prop := memoryChecksUptoRow.holds Tryz.pinned (OpenSpec.upto memoryChecksSpec)

/-- 'selfstablaw10.MemoryRanks', WHERE WHAT IT READS IS OF BULK AT MOST 1048576: true; the input reads as it did. -/
def memoryRanksUptoRow : OpenClaim := { program := "ytenajilnjeafpaagreat", sum := "63dc51e9ad671730eec313120c151023ead1619a08995e695ae22f8e5d0c2993", func := "selfstab/selfstablaw10.MemoryRanks", spec := "memoryRanks", unfollowed := true, recurses := true, plainKeys := false, apart := false, narrowed := true }
def MemoryRanksUptoSaid : Prop := memoryRanksUptoRow.holds Tryz.pinned (OpenSpec.upto memoryRanksSpec)

/-- 'selfstablaw10.MemoryCarries', WHERE WHAT IT READS IS OF BULK AT MOST 1048576: true; the input reads as it did. -/
def memoryCarriesUptoRow : OpenClaim := { program := "ytenajilnjeafpaagreat", sum := "63dc51e9ad671730eec313120c151023ead1619a08995e695ae22f8e5d0c2993", func := "selfstab/selfstablaw10.MemoryCarries", spec := "memoryCarries", unfollowed := true, recurses := true, plainKeys := false, apart := false, narrowed := true }
def MemoryCarriesUptoSaid : Prop := memoryCarriesUptoRow.holds Tryz.pinned (OpenSpec.upto memoryCarriesSpec)

/-- 'selfstablaw10.MemoryCarriesToItself', WHERE WHAT IT READS IS OF BULK AT MOST 1048576: true; the input reads as it did. -/
def memoryCarriesToItselfUptoRow : OpenClaim := { program := "ytenajilnjeafpaagreat", sum := "63dc51e9ad671730eec313120c151023ead1619a08995e695ae22f8e5d0c2993", func := "selfstab/selfstablaw10.MemoryCarriesToItself", spec := "memoryCarriesToItself", unfollowed := true, recurses := true, plainKeys := false, apart := false, narrowed := true }
def MemoryCarriesToItselfUptoSaid : Prop := memoryCarriesToItselfUptoRow.holds Tryz.pinned (OpenSpec.upto memoryCarriesToItselfSpec)

/-- 'selfstablaw10.MemoryChanges', WHERE WHAT IT READS IS OF BULK AT MOST 1048576: true; the input reads as it did. -/
def memoryChangesUptoRow : OpenClaim := { program := "ytenajilnjeafpaagreat", sum := "63dc51e9ad671730eec313120c151023ead1619a08995e695ae22f8e5d0c2993", func := "selfstab/selfstablaw10.MemoryChanges", spec := "memoryChanges", unfollowed := true, recurses := true, plainKeys := false, apart := false, narrowed := true }
def MemoryChangesUptoSaid : Prop := memoryChangesUptoRow.holds Tryz.pinned (OpenSpec.upto memoryChangesSpec)

/-- 'selfstablaw10.MemoryCorruptsNamedNodes', WHERE WHAT IT READS IS OF BULK AT MOST 1048576: true; the input reads as it did. -/
def memoryCorruptsNamedNodesUptoRow : OpenClaim := { program := "ytenajilnjeafpaagreat", sum := "63dc51e9ad671730eec313120c151023ead1619a08995e695ae22f8e5d0c2993", func := "selfstab/selfstablaw10.MemoryCorruptsNamedNodes", spec := "memoryCorruptsNamedNodes", unfollowed := true, recurses := true, plainKeys := false, apart := false, narrowed := true }
def MemoryCorruptsNamedNodesUptoSaid : Prop := memoryCorruptsNamedNodesUptoRow.holds Tryz.pinned (OpenSpec.upto memoryCorruptsNamedNodesSpec)

end Rows
end Go.Proofs.YtenajilnjeafpaaGreat
