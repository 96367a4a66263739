/- Part 1 of the texts under ProgramFormats,ProgramReadsBack,ProgramTellsProgramsApart,ProgramGrowsByLines,ProgramIgnoresBlanks: joined, with what it needs alone. -/
import Derived.Below
import Derived.Test.YtefiainojfeagaaGreatDoorProg
import Derived.Lib.LaidTab
import Derived.Lib.ItoaNum
set_option linter.unusedVariables false
namespace Go.Proofs.YtefiainojfeagaaGreatDoor
section
def GN : Nat := 0 + 1
def zcw (w : World) : Prop := Lib.TabIs Tryz.prog w "internal/strconv.uint64pow10" .u64 Lib.pow10Tab
theorem zqa : Tryz.prog.globalNamed "internal/strconv.uint64pow10" = some 0 := by kernel_rfl
theorem zcw.keep {w w' : World} (h : zcw w) (hk : ∀ k, k < GN → w'.heap[k]? = w.heap[k]?) (_ : w.heap.size ≤ w'.heap.size) : zcw w' := by
 unfold zcw Lib.TabIs World.var? at *
 rw [zqa] at *
 simp only [Option.bind_some] at *
 rw [hk _ (by decide)]
 exact h
theorem zcw.size {w : World} (h : zcw w) : GN ≤ w.heap.size := by
 have h2 : 0 < w.heap.size := by
  rcases Nat.lt_or_ge 0 w.heap.size with h' | h'
  ·exact h'
  ·simp [zcw, Lib.TabIs, World.var?, zqa, Array.getElem?_eq_none h'] at h
 show 0 + 1 ≤ w.heap.size
 omega
end
end Go.Proofs.YtefiainojfeagaaGreatDoor
