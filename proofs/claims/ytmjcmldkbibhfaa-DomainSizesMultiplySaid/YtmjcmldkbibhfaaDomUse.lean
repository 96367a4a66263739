/- The laws of domains, called from outside. -/
import Derived.Test.YtmjcmldkbibhfaaDom7
import Derived.Test.YtmjcmldkbibhfaaDom8
import Derived.Test.YtmjcmldkbibhfaaRel
set_option linter.unusedVariables false
namespace Go.Proofs.Ytmjcmldkbibhfaa
open Go.RowKit

section
variable {v0 v1 : Value} {Q2 Q3 Q4 Q5 : Prop}
theorem walk_DomainRanges (v0 : Value) (p : ProgD) (v1 : Value) (g : GraphD) (a b : Int) (w : World) (h0 : ProgOk w v0 p ∧ ProgIn p) (h1 : GraphOk w v1 g ∧ GraphIn g) (h2 : Q2) (h3 : Q3) :
    Calls Try.prog 3 #[v0, v1, .int .i64 a, .int .i64 b] w fun e w' => e = .returned (.bool true) ∧ Below w.heap.size w w' :=
  calls_of_con (ranges_con p g a b h0.2) (okW_lt w) (relAll_cons (prog_rel h0.1) (relAll_cons (graph_rel h1.1) (relAll_cons (.v _) (relAll_cons (.v _) relAll_nil))))
theorem walk_DomainBrings (v0 : Value) (p : ProgD) (v1 : Value) (g : GraphD) (a b c : Int) (w : World) (h0 : ProgOk w v0 p ∧ ProgIn p) (h1 : GraphOk w v1 g ∧ GraphIn g) (h2 : Q2) (h3 : Q3) (h4 : Q4) :
    Calls Try.prog 6 #[v0, v1, .int .i64 a, .int .i64 b, .int .i64 c] w fun e w' => e = .returned (.bool true) ∧ Below w.heap.size w w' :=
  calls_of_con (brings_con p g a b c h0.2) (okW_lt w) (relAll_cons (prog_rel h0.1) (relAll_cons (graph_rel h1.1) (relAll_cons (.v _) (relAll_cons (.v _) (relAll_cons (.v _) relAll_nil)))))
theorem walk_DomainIsTheSameEverywhere (v0 : Value) (p : ProgD) (v1 : Value) (g : GraphD) (a b c : Int) (w : World) (h0 : ProgOk w v0 p ∧ ProgIn p) (h1 : GraphOk w v1 g ∧ GraphIn g) (h2 : Q2) (h3 : Q3) (h4 : Q4) :
    Calls Try.prog 5 #[v0, v1, .int .i64 a, .int .i64 b, .int .i64 c] w fun e w' => e = .returned (.bool true) ∧ Below w.heap.size w w' :=
  calls_of_con (same_con p g a b c h0.2) (okW_lt w) (relAll_cons (prog_rel h0.1) (relAll_cons (graph_rel h1.1) (relAll_cons (.v _) (relAll_cons (.v _) (relAll_cons (.v _) relAll_nil)))))
theorem walk_DomainClampsOnce (v0 : Value) (p : ProgD) (v1 : Value) (g : GraphD) (a b c d : Int) (w : World) (h0 : ProgOk w v0 p ∧ ProgIn p) (h1 : GraphOk w v1 g ∧ GraphIn g) (h2 : Q2) (h3 : Q3) (h4 : Q4) (h5 : Q5) :
    Calls Try.prog 4 #[v0, v1, .int .i64 a, .int .i64 b, .int .i64 c, .int .i64 d] w fun e w' => e = .returned (.bool true) ∧ Below w.heap.size w w' :=
  calls_of_con (clamps_con p g a b c d h0.2) (okW_lt w) (relAll_cons (prog_rel h0.1) (relAll_cons (graph_rel h1.1) (relAll_cons (.v _) (relAll_cons (.v _) (relAll_cons (.v _) (relAll_cons (.v _) relAll_nil))))))
theorem walk_DomainSizesMultiply (v0 : Value) (p : ProgD) (v1 : Value) (g : GraphD) (a : Int) (w : World) (h0 : ProgOk w v0 p ∧ ProgIn p) (h1 : GraphOk w v1 g ∧ GraphIn g) (h2 : Q2) :
    Calls Try.prog 7 #[v0, v1, .int .i64 a] w fun e w' => e = .returned (.bool true) ∧ Below w.heap.size w w' :=
  calls_of_con (multiply_con p g a h0.2) (okW_lt w) (relAll_cons (prog_rel h0.1) (relAll_cons (graph_rel h1.1) (relAll_cons (.v _) relAll_nil)))
end
end Go.Proofs.Ytmjcmldkbibhfaa
