/- The laws GraphtextFormats, GraphtextReadsBack, GraphtextWritesBack, GraphtextTellsGraphsApart, called from outside. -/
import Derived.Test.YtkjcjenkepejgaaDoorText8
import Derived.Test.YtkjcjenkepejgaaDoorRel
set_option linter.unusedVariables false
namespace Go.Proofs.YtkjcjenkepejgaaDoor
open Go.RowKit
theorem walk_GraphtextFormats (v0 : Value) (g : GraphD) (w : World) (h0 : GraphOk w v0 g ∧ GraphIn g) (hG : Glob w) :
    Calls Tryd.prog 3 #[v0] w fun e w' => e = .returned (.bool true) ∧ Below w.heap.size w w' :=
  calls_of_con (gFormats_con g) hG (okW_lt w) (relAll_cons (graph_rel h0.1) relAll_nil)
theorem walk_GraphtextReadsBack (v0 : Value) (g : GraphD) (w : World) (h0 : GraphOk w v0 g ∧ GraphIn g) (hG : Glob w) :
    Calls Tryd.prog 4 #[v0] w fun e w' => e = .returned (.bool true) ∧ Below w.heap.size w w' :=
  calls_of_con (gReadsBack_con g) hG (okW_lt w) (relAll_cons (graph_rel h0.1) relAll_nil)
theorem walk_GraphtextWritesBack (s : ByteArray) (w : World) (hs : s.size ≤ maxLen) (hG : Glob w) :
    Calls Tryd.prog 5 #[.string s] w fun e w' => e = .returned (.bool true) ∧ Below w.heap.size w w' :=
  calls_of_con (gWritesBack_con s (by unfold maxLen at hs; omega)) hG (okW_lt w) (relAll_cons (.v _) relAll_nil)
theorem walk_GraphtextTellsGraphsApart (v0 : Value) (g : GraphD) (v1 : Value) (h : GraphD) (w : World) (h0 : GraphOk w v0 g ∧ GraphIn g) (h1 : GraphOk w v1 h ∧ GraphIn h) (hG : Glob w) :
    Calls Tryd.prog 6 #[v0, v1] w fun e w' => e = .returned (.bool true) ∧ Below w.heap.size w w' :=
  calls_of_con (gTells_con g h) hG (okW_lt w) (relAll_cons (graph_rel h0.1) (relAll_cons (graph_rel h1.1) relAll_nil))
end Go.Proofs.YtkjcjenkepejgaaDoor
