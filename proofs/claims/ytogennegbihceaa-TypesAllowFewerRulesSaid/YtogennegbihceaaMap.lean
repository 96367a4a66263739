/- Sets that a call keeps in a map with elements of type bool: made, looked up, added to. No program. -/
import Derived.Test.YtogennegbihceaaRow
import Derived.Maps.OwnOps
import Derived.Maps.OwnSet
import Derived.Maps.Views
set_option linter.unusedVariables false
set_option maxRecDepth 100000
namespace Go.Proofs.Ytogennegbihceaa
open Go.RowKit Go.Maps

/-- Block b is a map of at most n entries; its keys with the element true are those of the list. -/
def SetMap (P : Program) (k e : TypeId) (w : World) (b n : Nat) (S : List Lit) : Prop :=
  ∃ D : DataW Unit, w.ownsMap P k (plainElem P e) b n D ∧ ∀ kl, (kl ∈ S → D.atKey kl (.lit (.bool false)) = .lit (.bool true)) ∧ (kl ∉ S → D.atKey kl (.lit (.bool false)) = .lit (.bool false))

section
variable {P : Program} {k e t : TypeId} {w w' : World} {b n : Nat} {S : List Lit}
theorem setMap_made (P : Program) (k e : TypeId) (w : World) : SetMap P k e (w.alloc (.map #[] 0)) w.heap.size 0 [] :=
  ⟨.map [], World.ownsMap_made w P k _, fun kl => ⟨fun h => by simp at h, fun _ => by simp [DataW.atKey]⟩⟩
theorem SetMap.lt (h : SetMap P k e w b n S) : b < w.heap.size := by obtain ⟨D, h, _⟩ := h; exact h.lt
theorem SetMap.below (h : SetMap P k e w b n S) (hb : Below w.heap.size w w') : SetMap P k e w' b n S := by
  have hl := h.lt
  obtain ⟨D, ⟨es, clock, h1, h2⟩, h3⟩ := h
  exact ⟨D, ⟨es, clock, (hb.block b hl).trans h1, h2⟩, h3⟩
theorem plainElem_bool_inv (he : P.underlying e = some .bool) {v : Value} {z : DataW Unit × List MemPlace} (h : plainElem P e v = some z) : ∃ x, v = .bool x ∧ z = (.lit (.bool x), []) := by
  unfold plainElem at h
  rw [he] at h
  cases v <;> simp at h
  exact ⟨_, rfl, h.symm⟩
/-- The look-up. -/
theorem SetMap.look (h : SetMap P k e w b n S) (K : Keyed P k) (ht : P.underlying t = some (.map k e)) (he : P.underlying e = some .bool) (hz : (zeroValue e).run P w = .ok (.bool false) w) {key : Value} {kl : Lit} (hkey : keyOf P k key = some kl) (x : Bool) (hx : (kl ∈ S ∧ x = true) ∨ (kl ∉ S ∧ x = false)) :
    (Instr.lookup t (.map (some b)) key false).run P w = .ok (.bool x) w := by
  obtain ⟨D, h1, h2⟩ := h
  obtain ⟨v, ps, hrun, hv⟩ := h1.lookup K ht hz (plainElem_bool he false) hkey
  obtain ⟨y, rfl, hy⟩ := plainElem_bool_inv he hv
  rcases hx with ⟨h3, rfl⟩ | ⟨h3, rfl⟩
  · rw [(h2 kl).1 h3] at hy
    simp only [Prod.mk.injEq, DataW.lit.injEq, Lit.bool.injEq] at hy
    obtain ⟨rfl, _⟩ := hy
    exact hrun
  · rw [(h2 kl).2 h3] at hy
    simp only [Prod.mk.injEq, DataW.lit.injEq, Lit.bool.injEq] at hy
    obtain ⟨rfl, _⟩ := hy
    exact hrun
/-- A key is added. -/
theorem wpList_setMap_add {ops : Array Oper} {rest : List Oper} {o : Oper} {a : Act} {Q : Exit → Act → World → Prop}
    (hg : o.guard = none) (m x v : Operand) (t : TypeId) (hop : o.op = Op.mapUpdate t m x v)
    (k e : TypeId) (K : Keyed P k) (ht : P.underlying t = some (.map k e)) (he : P.underlying e = some .bool) (b n : Nat) (S : List Lit)
    (hm : a.eval m = .map (some b)) (hown : SetMap P k e w b n S) (hn : n < maxLen) (key : Value) (kl : Lit) (hx : a.eval x = key) (hv : a.eval v = .bool true) (hkey : keyOf P k key = some kl)
    (hK : ∀ w', SetMap P k e w' b (n + 1) (S ++ [kl]) → w.grownBy w' (some b) → wpList P ops Q rest (a.put o.dst undef) w') :
    wpList P ops Q (o :: rest) a w := by
  obtain ⟨D, h1, h2⟩ := hown
  refine wpList_mapUpdate_own w hg m x v t hop k e K ht (plainElem P e) b n D hm h1 hn key (.bool true) kl hx hv hkey (.lit (.bool true)) [] (plainElem_bool he true) (fun w' h3 h4 => hK w' ⟨_, h3, fun kl' => ?_⟩ h4)
  by_cases hkl : kl' = kl
  · subst hkl
    refine ⟨fun _ => atKey_put_same h1.isMap (K.key hkey) _ _, fun h => absurd (by simp) h⟩
  · rw [atKey_put_other hkl]
    exact ⟨fun h => (h2 kl').1 (by simpa [hkl] using h), fun h => (h2 kl').2 (by simpa [hkl] using h)⟩
end
end Go.Proofs.Ytogennegbihceaa
