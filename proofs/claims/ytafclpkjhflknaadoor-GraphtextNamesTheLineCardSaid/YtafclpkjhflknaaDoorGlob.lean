/- What is known of the package-level variables. -/
import Derived.Below
set_option linter.unusedVariables false
namespace Go.Proofs.YtafclpkjhflknaaDoor
/-- The package-level variables of which something is known lie below this block. -/
def GN : Nat := 0 + 1
/-- The variable on which the search for a string leans holds an int. -/
def Glob (w : World) : Prop := ∃ m : Int, w.cell? ⟨0, 0, none⟩ = some (.int .i64 m)
theorem Glob.keep {w w' : World} (h : Glob w) (hk : ∀ k, k < GN → w'.heap[k]? = w.heap[k]?) (_ : w.heap.size ≤ w'.heap.size) : Glob w' := by
  obtain ⟨m, hm⟩ := h
  exact ⟨m, (World.cell?_of_block (w := w) (hk _ (Nat.lt_succ_self _))).trans hm⟩
theorem Glob.size {w : World} (h : Glob w) : GN ≤ w.heap.size := by
  obtain ⟨m, hm⟩ := h
  rcases Nat.lt_or_ge 0 w.heap.size with h | h
  · exact h
  · simp [World.cell?, Array.getElem?_eq_none h] at hm
end Go.Proofs.YtafclpkjhflknaaDoor
