/- A world that holds what the rows list; what is known of the package-level variables in a world of a row. -/
import Derived.Test.YtkjcjenkepejgaaDoorGlob
import Derived.Test.YtkjcjenkepejgaaDoorRows
import Derived.Lib.LaidTab
import Derived.Deep.DeepHandedRow
import Derived.LaidSub
set_option linter.unusedVariables false
set_option maxRecDepth 100000
namespace Go.Proofs.YtkjcjenkepejgaaDoor
open Go.RowKit
def lits1 (l : List (DataW Unit)) : List Value := l.flatMap fun | .lit (.int k z) => [.int k z] | _ => []
def lits2 : DataW Unit → List Value
  | .agg l => l.flatMap fun | .lit (.int k z) => [.int k z] | .agg m => lits1 m | _ => []
  | _ => []
def layIn (vs : List Value) : Obj → Obj
  | .cells _ t frozen => .cells vs.toArray t frozen
  | o => o
theorem maxLen_of {w : World} (h : w.ShapedOpen Tryd.prog) : ∃ m : Int, w.cell? ⟨1, 0, none⟩ = some (.int .i64 m) := by
  obtain ⟨cs, hh, hs, hr⟩ := h.1 1 #[.int .i64 0] 3 (of_decide_eq_true (by kernel_rfl)) (by kernel_rfl)
  obtain ⟨ts, hts, _, hall⟩ := hr (by kernel_rfl)
  rw [show Tryd.prog.cellTypes Tryd.prog.depth 3 = some [3] by kernel_rfl] at hts
  cases hts
  have h1 : 0 < cs.size := by simp at hs; omega
  obtain ⟨u, hu', hok⟩ := hall 0 cs[0] (by simp [h1])
  have : u = 3 := by simpa using hu'.symm
  subst this
  have hcell : w.cell? ⟨1, 0, none⟩ = some cs[0] := by simp [World.cell?, hh, h1]
  rw [hcell]
  unfold Cell.ok at hok
  rw [Tryd.underlying3] at hok
  cases hv : cs[0] <;> rw [hv] at hok <;> first | (simp at hok; done) | skip
  rename_i k n
  obtain ⟨rfl, _⟩ : k = .i64 ∧ _ := hok
  exact ⟨n, rfl⟩
noncomputable def laidWorld (os : Os) : World :=
  { World.holding Tryd.prog os ⟨#[], #[], []⟩ with heap := (((((World.holding Tryd.prog os ⟨#[], #[], []⟩).heap.modify 4 (layIn (lits2 Rows.laid_unicode_utf8_first))).modify 5 (layIn (lits2 Rows.laid_unicode_utf8_acceptRanges))).modify 2 (layIn (lits2 Rows.laid_math_bits_deBruijn32tab))).modify 3 (layIn (lits2 Rows.laid_math_bits_deBruijn64tab))).modify 0 (layIn (lits2 Rows.laid_internal_strconv_uint64pow10)) }
theorem glob_of {laid : List (String × DataW Unit)} {W : World} (hl : (laid.filter fun x => x.1 == "internal/strconv.uint64pow10") = [("internal/strconv.uint64pow10", Rows.laid_internal_strconv_uint64pow10)]) (hs : W.ShapedOpen Tryd.prog) (h : laidMetH Tryd.prog laid W) : Glob W := by
  refine ⟨maxLen_of hs, ?_⟩
  have h2 := laidMetH.filter (fun x => x.1 == "internal/strconv.uint64pow10") h
  rw [hl] at h2
  have h3 : laidMet Tryd.prog [("internal/strconv.uint64pow10", Lib.tabData .u64 Lib.pow10Tab)] W := h2
  exact Lib.tabIs_of_head (t := 83) (e := 73) (n := 20) gPow10 (by kernel_rfl) Tryd.underlying83 Tryd.underlying73 (by kernel_rfl) (by kernel_rfl) h3
end Go.Proofs.YtkjcjenkepejgaaDoor
