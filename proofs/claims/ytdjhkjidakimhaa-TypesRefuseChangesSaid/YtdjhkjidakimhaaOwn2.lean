/- Parts of slices that are read. No program. -/
import Derived.Test.YtdjhkjidakimhaaOwn
set_option linter.unusedVariables false
namespace Go.Proofs.Ytdjhkjidakimhaa
open Go.RowKit

/-- .. where the slice leads to cells. -/
theorem Row.sub {w : World} {g o n cap size : Nat} {xs : List Value} (h : Row w (.slice (some ⟨g, o, none⟩) n cap) size n xs) (lo m c : Nat) (h1 : lo + m ≤ n) (h2 : m ≤ c) (h3 : c ≤ 9223372036854775807) :
    Row w (.slice (some ⟨g, o + lo * size, none⟩) m c) size m ((xs.drop (lo * size)).take (m * size)) := by
  obtain ⟨a, cap', hv, _, _, h4, h5⟩ := h.part
  cases hv
  rcases h5 with h5 | ⟨g', o', ha, _, h6⟩
  · have hm : m = 0 := by omega
    subst hm
    exact ⟨_, c, rfl, h2, by unfold maxLen; omega, by simp, (fun h => by cases h), .inl rfl⟩
  · cases ha
    exact h6 lo m c h1 h2 h3
theorem flat_drop {α : Type} (f : α → List Value) (k : Nat) (hf : ∀ x, (f x).length = k) (l : List α) : ∀ q, (l.flatMap f).drop (q * k) = (l.drop q).flatMap f := by
  induction l with
  | nil => intro q; simp
  | cons x l ih =>
    intro q
    cases q with
    | zero => simp
    | succ q =>
      rw [List.flatMap_cons, Nat.succ_mul, Nat.add_comm, ← List.drop_drop, List.drop_append_of_le_length (by rw [hf]; exact Nat.le_refl _), List.drop_of_length_le (l := f x) (by rw [hf]; exact Nat.le_refl _), List.nil_append, ih, List.drop_succ_cons]
theorem flat_take {α : Type} (f : α → List Value) (k : Nat) (hf : ∀ x, (f x).length = k) (l : List α) : ∀ q, (l.flatMap f).take (q * k) = (l.take q).flatMap f := by
  induction l with
  | nil => intro q; simp
  | cons x l ih =>
    intro q
    cases q with
    | zero => simp
    | succ q =>
      rw [List.flatMap_cons, Nat.succ_mul, List.take_append, List.take_of_length_le (by rw [hf]; omega), hf, Nat.add_sub_cancel, ih, List.take_succ_cons, List.flatMap_cons]
end Go.Proofs.Ytdjhkjidakimhaa
