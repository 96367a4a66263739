/- Part 1 of the texts under MemoryRanks,MemoryChanges,MemoryCarries,MemoryCorruptsNamedNodes,MemoryCarriesToItself: joined, with what it needs alone. -/
import Derived.Below
set_option linter.unusedVariables false
namespace Go.Proofs.YtenajilnjeafpaaGreat
/-- The package-level variables of which something is known lie below this block. -/
def GN : Nat := 0
def Glob (_ : World) : Prop := True
theorem Glob.keep {w w' : World} (_ : Glob w) (_ : ∀ k, k < GN → w'.heap[k]? = w.heap[k]?) (_ : w.heap.size ≤ w'.heap.size) : Glob w' := trivial
theorem Glob.size {w : World} (_ : Glob w) : GN ≤ w.heap.size := Nat.zero_le _
end Go.Proofs.YtenajilnjeafpaaGreat
