/- The law GraphtextNamesTheLine, called from outside. -/
import Derived.Test.YtafclpkjhflknaaDoorText6
import Derived.Test.YtafclpkjhflknaaDoorRel
set_option linter.unusedVariables false
namespace Go.Proofs.YtafclpkjhflknaaDoor
open Go.RowKit
theorem walk_GraphtextNamesTheLine {Q1 : Prop} (v0 : Value) (g : GraphD) (a : Int) (s : ByteArray) (w : World) (h0 : GraphOk w v0 g ∧ GraphIn g) (h1 : Q1) (hs : s.size ≤ maxLen) (hG : Glob w) :
    Calls Tryd.prog 4 #[v0, .int .i64 a, .string s] w fun e w' => e = .returned (.bool true) ∧ Below w.heap.size w w' :=
  calls_of_con (gNames_con g a s (by unfold maxLen at hs; omega)) hG (okW_lt w) (relAll_cons (graph_rel h0.1) (relAll_cons (.v _) (relAll_cons (.v _) relAll_nil)))
end Go.Proofs.YtafclpkjhflknaaDoor
