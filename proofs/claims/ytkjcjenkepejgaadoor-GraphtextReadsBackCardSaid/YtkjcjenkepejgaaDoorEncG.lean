/- Graphs and configurations as abstract values. No program. -/
import Derived.Test.YtkjcjenkepejgaaDoorSymQ
import Derived.Test.YtkjcjenkepejgaaDoorGraph
set_option linter.unusedVariables false
namespace Go.Proofs.YtkjcjenkepejgaaDoor
open Go.RowKit
def encInts (l : List Int) : AV := .sl 1 (l.map fun z => [i64 z])
def encLink (l : Lk) : List AV := [i64 l.1, i64 l.2]
def encLinks (l : List Lk) : AV := .sl 2 (l.map encLink)
def encPorts (l : List (List Lk)) : AV := .sl 1 (l.map fun x => [encLinks x])
def encG (g : GraphD) : AV := .agg [encInts g.ids, encPorts g.ports]
def encC (c : List (List Int)) : AV := .sl 1 (c.map fun x => [encInts x])
/-- All of memory may be read. -/
def okW (w : World) (g : Nat) : Prop := g < w.heap.size
def none0 : Live := fun _ => none

theorem relAll1 {ok : Nat → Prop} {w : World} {lv : Live} {a : AV} {cs : List Value} (h : RelAll ok w lv [a] cs) : ∃ u, cs = [u] ∧ Rel ok w lv a u := by
  match cs, h with
  | [u], h => exact ⟨u, rfl, h.2 0 _ _ rfl rfl⟩
theorem relAll2 {ok : Nat → Prop} {w : World} {lv : Live} {a b : AV} {cs : List Value} (h : RelAll ok w lv [a, b] cs) : ∃ u v, cs = [u, v] ∧ Rel ok w lv a u ∧ Rel ok w lv b v := by
  match cs, h with
  | [u, v], h => exact ⟨u, v, rfl, h.2 0 _ _ rfl rfl, h.2 1 _ _ rfl rfl⟩
theorem relAll3 {ok : Nat → Prop} {w : World} {lv : Live} {a b c : AV} {cs : List Value} (h : RelAll ok w lv [a, b, c] cs) : ∃ u v x, cs = [u, v, x] ∧ Rel ok w lv a u ∧ Rel ok w lv b v ∧ Rel ok w lv c x := by
  match cs, h with
  | [u, v, x], h => exact ⟨u, v, x, rfl, h.2 0 _ _ rfl rfl, h.2 1 _ _ rfl rfl, h.2 2 _ _ rfl rfl⟩
theorem con_of_calls {P : Program} {f : FuncId} {args : List AV} {x : Value} (hb : HasBody P f) (h : ∀ (w : World) (us : List Value) (ok : Nat → Prop), (∀ g, ok g → g < w.heap.size) → RelAll ok w (fun _ => none) args us → Calls P f us.toArray w fun e w' => e = .returned x ∧ Below w.heap.size w w') : Con P f args (.v x) :=
  ⟨hb, rfl, fun ok0 w us _ hok hr => (h w us ok0 hok hr).mono fun e w' ⟨h1, h2⟩ => ⟨x, h1, .v x, h2⟩⟩
end Go.Proofs.YtkjcjenkepejgaaDoor
