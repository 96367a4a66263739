/- The law TypesAllowFewerRules, called from outside. -/
import Derived.Test.YtogennegbihceaaTypeLaw4
import Derived.Test.YtogennegbihceaaRelP
set_option linter.unusedVariables false
namespace Go.Proofs.Ytogennegbihceaa
open Go.RowKit

theorem walk_TypesAllowFewerRules {Q1 Q2 : Prop} (v0 : Value) (p : ProgD) (a b : Int) (w : World) (h0 : ProgOk w v0 p ∧ ProgIn p) (h1 : Q1) (h2 : Q2) :
    Calls Try.prog 3 #[v0, .int .i64 a, .int .i64 b] w fun e w' => e = .returned (.bool true) ∧ Below w.heap.size w w' :=
  calls_of_con (fewer_con p a b h0.2) trivial (okW_lt w) (relAll_cons (prog_rel h0.1) (relAll_cons (.v _) (relAll_cons (.v _) relAll_nil)))
end Go.Proofs.Ytogennegbihceaa
