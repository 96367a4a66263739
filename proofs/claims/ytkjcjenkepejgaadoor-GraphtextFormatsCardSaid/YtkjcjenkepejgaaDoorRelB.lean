/- Slices in memory as relations to abstract values. The way from an opened argument to a contract. -/
import Derived.Test.YtkjcjenkepejgaaDoorEncG
import Derived.Test.YtkjcjenkepejgaaDoorOpen
import Derived.Test.YtkjcjenkepejgaaDoorSymR
set_option linter.unusedVariables false
namespace Go.Proofs.YtkjcjenkepejgaaDoor
open Go.RowKit

theorem rel_of_seq {α : Type} {f : α → List AV} {R : List Value → α → Prop} {w : World} {lv : Live} {size : Nat} {l : List α} {v : Value} (h : Seq R size w v l) (hf : ∀ x, (f x).length = size) (hfc : ∀ x, ∀ c ∈ f x, cellA c = true)
    (hR : ∀ x ∈ l, ∀ cs, R cs x → RelAll (okW w) w (fun _ => none) (f x) cs) : Rel (okW w) w lv (.sl size (l.map f)) v := by
  obtain ⟨xs, ⟨a, cap, rfl, h1, h2, h3, h4, h5⟩, h6⟩ := h
  have hget : ∀ (i j : Nat) (row : List AV) (c : AV), (l.map f)[i]? = some row → row[j]? = some c → ∃ x, l[i]? = some x ∧ row = f x ∧ ∃ u, xs[i * size + j]? = some u ∧ Rel (okW w) w (fun _ => none) c u := by
    intro i j row c hrow hc
    rw [List.getElem?_map] at hrow
    cases hx : l[i]? with
    | none => simp [hx] at hrow
    | some x =>
      simp only [hx, Option.map_some, Option.some.injEq] at hrow
      subst hrow
      have hj : j < size := by have := (List.getElem?_eq_some_iff.1 hc).1; rw [hf] at this; exact this
      have hi := (List.getElem?_eq_some_iff.1 hx).1
      have hlt : i * size + j < xs.length := by
        have : i * size + size ≤ l.length * size := by rw [← Nat.succ_mul]; exact Nat.mul_le_mul_right _ hi
        omega
      refine ⟨x, rfl, rfl, xs[i * size + j], List.getElem?_eq_getElem hlt, ?_⟩
      refine (hR x (List.mem_of_getElem? hx) _ (h6 i x hx)).2 j c _ hc ?_
      rw [List.getElem?_take, if_pos hj, List.getElem?_drop, List.getElem?_eq_getElem hlt]
  have hgo : ∃ g o, l ≠ [] → a = some ⟨g, o, none⟩ ∧ g < w.heap.size ∧ ∀ (j : Nat) (u : Value), xs[j]? = some u → w.cell? ⟨g, o + j, none⟩ = some u := by
    rcases h5 with h5 | ⟨g, o, q1, q2, q3⟩
    · exact ⟨0, 0, fun h => absurd (List.eq_nil_of_length_eq_zero h5) h⟩
    · exact ⟨g, o, fun _ => ⟨q1, q2, q3⟩⟩
  obtain ⟨g, o, hgo⟩ := hgo
  have := Rel.sl (ok := okW w) (w := w) (lv := lv) (size := size) (rows := l.map f) a cap (fun i j => xs.getD (i * size + j) undef) g o (by simpa using h1) h2 h4 (fun row hr => by obtain ⟨x, _, rfl⟩ := List.mem_map.1 hr; exact hf x)
    (fun hne => by have := hgo (by intro h; simp [h] at hne); exact ⟨this.1, this.2.1⟩) (fun i j row c hrow hc => by
      obtain ⟨x, hx, rfl, u, hu, hr⟩ := hget i j row c hrow hc
      have hne : l ≠ [] := by intro h; simp [h] at hx
      refine ⟨?_, hfc x c (List.mem_of_getElem? hc)⟩
      rw [Nat.add_assoc, (hgo hne).2.2 _ u hu]
      simp [hu]) (fun i j row c hrow hc => by
      obtain ⟨x, hx, rfl, u, hu, hr⟩ := hget i j row c hrow hc
      have : xs.getD (i * size + j) undef = u := by simp [hu]
      rw [this]; exact hr)
  simpa using this
theorem flat_slice {α : Type} {g : α → List Value} {size : Nat} (hg : ∀ x, (g x).length = size) {l : List α} {i : Nat} {x : α} (hx : l[i]? = some x) : ((l.flatMap g).drop (i * size)).take size = g x := by
  apply List.ext_getElem?
  intro j
  rw [List.getElem?_take]
  by_cases hj : j < size
  · rw [if_pos hj, List.getElem?_drop]
    have hu : (g x)[j]? = some ((g x)[j]'(by rw [hg]; exact hj)) := List.getElem?_eq_getElem _
    rw [hu]
    exact flat_get g size hg l i j x _ hx hu
  · rw [if_neg hj, List.getElem?_eq_none (by rw [hg]; omega)]
theorem seq_of_row {α : Type} {g : α → List Value} {size : Nat} (hg : ∀ x, (g x).length = size) {w : World} {v : Value} {l : List α} (h : Row w v size l.length (l.flatMap g)) : Seq (fun cs x => cs = g x) size w v l :=
  ⟨_, h, fun i x hx => flat_slice hg hx⟩
theorem relAll_v {ok : Nat → Prop} {w : World} {lv : Live} (vs : List Value) : RelAll ok w lv (vs.map AV.v) vs := by
  refine ⟨by simp, fun i x u hx hu => ?_⟩
  rw [List.getElem?_map, hu] at hx
  cases hx
  exact .v u
theorem relAll_nil {ok : Nat → Prop} {w : World} {lv : Live} : RelAll ok w lv [] [] := ⟨rfl, fun i x u hx hu => by simp at hx⟩
theorem relAll_cons {ok : Nat → Prop} {w : World} {lv : Live} {a : AV} {v : Value} {xs : List AV} {vs : List Value} (h : Rel ok w lv a v) (t : RelAll ok w lv xs vs) : RelAll ok w lv (a :: xs) (v :: vs) := by
  refine ⟨by simp [t.1], fun i x u hx hu => ?_⟩
  cases i with
  | zero => simp at hx hu; subst hx hu; exact h
  | succ i => simp at hx hu; exact t.2 i x u hx hu
theorem rel_plain {w : World} {lv : Live} {α : Type} {g : α → List Value} {size : Nat} (hg : ∀ x, (g x).length = size) (h1 : ∀ x, ∀ u ∈ g x, u.oneCell' = true) {v : Value} {l : List α} (h : Row w v size l.length (l.flatMap g)) : Rel (okW w) w lv (.sl size (l.map fun x => (g x).map AV.v)) v :=
  rel_of_seq (seq_of_row hg h) (fun x => by simp [hg]) (fun x c hc => by
    obtain ⟨u, hu, rfl⟩ := List.mem_map.1 hc
    exact h1 x u hu) (fun x _ cs hc => by subst hc; exact relAll_v _)
theorem ints_rel {w : World} {lv : Live} {v : Value} {l : List Int} (h : Ints .i64 w v l) : Rel (okW w) w lv (encInts l) v := by
  refine rel_plain (g := fun t : Int => [.int .i64 t]) (fun _ => rfl) (fun x u hu => by simp at hu; subst hu; rfl) ?_
  unfold Ints at h
  rwa [flat_one l]
theorem okW_lt (w : World) : ∀ g, okW w g → g < w.heap.size := fun _ h => h
end Go.Proofs.YtkjcjenkepejgaaDoor
