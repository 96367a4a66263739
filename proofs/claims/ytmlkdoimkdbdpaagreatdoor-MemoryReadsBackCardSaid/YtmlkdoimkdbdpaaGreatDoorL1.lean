/- Part 1 of the texts under MemoryReadsAndWrites,MemoryReadsBack: joined, with what it needs alone. -/
import Derived.Below
import Derived.Test.YtmlkdoimkdbdpaaGreatDoorProg
import Derived.Lib.LaidTab
import Derived.Lib.ItoaNum
set_option linter.unusedVariables false
namespace Go.Proofs.YtmlkdoimkdbdpaaGreatDoor
def GN : Nat := max 1 0 + 1
def Glob (w : World) : Prop := (∃ m : Int, w.cell? ⟨1, 0, none⟩ = some (.int .i64 m)) ∧ Lib.TabIs Tryz.prog w "internal/strconv.uint64pow10" .u64 Lib.pow10Tab
theorem gPow10 : Tryz.prog.globalNamed "internal/strconv.uint64pow10" = some 0 := by kernel_rfl
theorem Glob.keep {w w' : World} (h : Glob w) (hk : ∀ k, k < GN → w'.heap[k]? = w.heap[k]?) (_ : w.heap.size ≤ w'.heap.size) : Glob w' := by
  obtain ⟨⟨m, hm⟩, ht⟩ := h
  refine ⟨⟨m, (World.cell?_of_block (w := w) (hk _ (by decide))).trans hm⟩, ?_⟩
  unfold Lib.TabIs World.var? at *
  rw [gPow10] at *
  simp only [Option.bind_some] at *
  rw [hk _ (by decide)]
  exact ht
theorem Glob.size {w : World} (h : Glob w) : GN ≤ w.heap.size := by
  obtain ⟨⟨m, hm⟩, ht⟩ := h
  have h1 : 1 < w.heap.size := by
    rcases Nat.lt_or_ge 1 w.heap.size with h | h
    · exact h
    · simp [World.cell?, Array.getElem?_eq_none h] at hm
  have h2 : 0 < w.heap.size := by
    rcases Nat.lt_or_ge 0 w.heap.size with h | h
    · exact h
    · simp [Lib.TabIs, World.var?, gPow10, Array.getElem?_eq_none h] at ht
  show max 1 0 + 1 ≤ w.heap.size
  omega
theorem Glob.maxLen {w : World} (h : Glob w) : ∃ m : Int, w.cell? ⟨1, 0, none⟩ = some (.int .i64 m) := h.1
end Go.Proofs.YtmlkdoimkdbdpaaGreatDoor
