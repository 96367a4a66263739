/- Graphs: what the elder texts say of memory, as relations to abstract values. -/
import Derived.Test.YtkjcjenkepejgaaDoorRelB
import Derived.Test.YtkjcjenkepejgaaDoorDataG
set_option linter.unusedVariables false
namespace Go.Proofs.YtkjcjenkepejgaaDoor
open Go.RowKit

theorem links_rel {w : World} {lv : Live} {v : Value} {l : List Lk} (h : Pairs w v l) : Rel (okW w) w lv (encLinks l) v :=
  rel_plain (g := fun t : Lk => [.int .i64 t.1, .int .i64 t.2]) (fun _ => rfl) (fun x u hu => by simp at hu; rcases hu with rfl | rfl <;> rfl) h
theorem graph_rel {w : World} {lv : Live} {v : Value} {g : GraphD} (h : GraphOk w v g) : Rel (okW w) w lv (encG g) v := by
  obtain ⟨iv, pv, rfl, h1, h2⟩ := h
  have h3 : RelAll (okW w) w lv [encInts g.ids, encPorts g.ports] [iv, pv] := by
    refine relAll_cons (ints_rel h1) (relAll_cons ?_ relAll_nil)
    refine rel_of_seq h2 (fun _ => rfl) (fun x c hc => by simp at hc; subst hc; rfl) fun x _ cs hc => ?_
    obtain ⟨lv', rfl, r1⟩ := hc
    exact relAll_cons (links_rel r1) relAll_nil
  exact .agg _ h3.1 (fun c hc => by simp at hc; rcases hc with rfl | rfl <;> rfl) h3.2
end Go.Proofs.YtkjcjenkepejgaaDoor
