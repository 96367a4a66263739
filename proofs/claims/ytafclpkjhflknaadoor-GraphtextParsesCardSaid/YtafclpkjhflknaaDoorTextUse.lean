/- The laws of graphs as texts, called from outside. -/
import Derived.Test.YtafclpkjhflknaaDoorText4
import Derived.Test.YtafclpkjhflknaaDoorRel
set_option linter.unusedVariables false
namespace Go.Proofs.YtafclpkjhflknaaDoor
open Go.RowKit
theorem walk_GraphtextParses (s : ByteArray) (w : World) (hs : s.size ≤ maxLen) (hG : Glob w) :
    Calls Tryd.prog 3 #[.string s] w fun e w' => e = .returned (.bool true) ∧ Below w.heap.size w w' :=
  calls_of_con (gParses_con s (by unfold maxLen at hs; omega)) hG (okW_lt w) (relAll_cons (.v _) relAll_nil)
end Go.Proofs.YtafclpkjhflknaaDoor
