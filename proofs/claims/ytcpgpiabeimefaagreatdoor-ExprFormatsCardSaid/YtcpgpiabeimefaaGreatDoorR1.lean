/- Part 1 of the texts under ExprFormats,ExprBracketsEverything: joined, with what it needs alone. -/
import Derived.Below
import Derived.Test.YtcpgpiabeimefaaGreatDoorProg
import Derived.Lib.LaidTab
import Derived.Lib.ItoaNum
set_option linter.unusedVariables false
namespace Go.Proofs.YtcpgpiabeimefaaGreatDoor
def GN : Nat := 1 + 1
def ykj (w : World) : Prop := Lib.TabIs Tryz.prog w "internal/strconv.uint64pow10" .u64 Lib.pow10Tab
theorem gPow10 : Tryz.prog.globalNamed "internal/strconv.uint64pow10" = some 1 := by kernel_rfl
theorem ykj.keep {w w' : World} (h : ykj w) (hk : ∀ k, k < GN → w'.heap[k]? = w.heap[k]?) (_ : w.heap.size ≤ w'.heap.size) : ykj w' := by
  unfold ykj Lib.TabIs World.var? at *
  rw [gPow10] at *
  simp only [Option.bind_some] at *
  rw [hk _ (by decide)]
  exact h
theorem ykj.size {w : World} (h : ykj w) : GN ≤ w.heap.size := by
  have h2 : 1 < w.heap.size := by
    rcases Nat.lt_or_ge 1 w.heap.size with h' | h'
    · exact h'
    · simp [ykj, Lib.TabIs, World.var?, gPow10, Array.getElem?_eq_none h'] at h
  show 1 + 1 ≤ w.heap.size
  omega
end Go.Proofs.YtcpgpiabeimefaaGreatDoor
