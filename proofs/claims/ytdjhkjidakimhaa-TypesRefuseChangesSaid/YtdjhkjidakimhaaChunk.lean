/- The cells of a slice, element by element: appended, cut, changed. No program. -/
import Derived.Test.YtdjhkjidakimhaaOpen
import Derived.Test.YtdjhkjidakimhaaOwn2
set_option linter.unusedVariables false
namespace Go.Proofs.Ytdjhkjidakimhaa
open Go.RowKit

def chunk (xs : List Value) (s i : Nat) : List Value := (xs.drop (i * s)).take s
theorem chunk_append_left (xs ys : List Value) (n s i : Nat) (h : xs.length = n * s) (hi : i < n) : chunk (xs ++ ys) s i = chunk xs s i := by
  unfold chunk
  have h1 : i * s + s ≤ n * s := by rw [← Nat.succ_mul]; exact Nat.mul_le_mul_right _ hi
  rw [List.drop_append_of_le_length (by omega), List.take_append_of_le_length (by rw [List.length_drop]; omega)]
theorem chunk_append_right (xs ys : List Value) (n s i : Nat) (h : xs.length = n * s) : chunk (xs ++ ys) s (n + i) = chunk ys s i := by
  unfold chunk
  rw [Nat.add_mul, ← h, ← List.drop_drop, List.drop_left]
theorem chunk_drop (xs : List Value) (s m i : Nat) : chunk (xs.drop (m * s)) s i = chunk xs s (m + i) := by
  unfold chunk
  rw [List.drop_drop, Nat.add_mul]
theorem chunk_take (xs : List Value) (s m i : Nat) (hi : i < m) : chunk (xs.take (m * s)) s i = chunk xs s i := by
  unfold chunk
  have h1 : i * s + s ≤ m * s := by rw [← Nat.succ_mul]; exact Nat.mul_le_mul_right _ hi
  rw [List.drop_take, List.take_take, Nat.min_eq_left (by omega)]
theorem chunk_set_same (xs : List Value) (s i j : Nat) (a : Value) (hj : j < s) : chunk (xs.set (i * s + j) a) s i = (chunk xs s i).set j a := by
  unfold chunk
  rw [List.drop_set, if_neg (by omega), Nat.add_sub_cancel_left, List.take_set]
theorem chunk_set_other (xs : List Value) (s i i' j : Nat) (a : Value) (hj : j < s) (h : i' ≠ i) : chunk (xs.set (i * s + j) a) s i' = chunk xs s i' := by
  unfold chunk
  rcases Nat.lt_or_ge i i' with h1 | h1
  · have : i * s + s ≤ i' * s := by rw [← Nat.succ_mul]; exact Nat.mul_le_mul_right _ h1
    rw [List.drop_set, if_pos (by omega)]
  · have : i' * s + s ≤ i * s := by rw [← Nat.succ_mul]; exact Nat.mul_le_mul_right _ (by omega)
    rw [List.drop_set, if_neg (by omega), List.take_set_of_le (by omega)]
theorem chunk_one (c : List Value) (s : Nat) (h : c.length = s) : chunk c s 0 = c := by
  unfold chunk; rw [Nat.zero_mul, List.drop_zero, List.take_of_length_le (by omega)]
/-- The cells of a slice whose elements are related to a list's. -/
def Chunks {α : Type} (R : List Value → α → Prop) (s : Nat) (xs : List Value) (l : List α) : Prop := xs.length = l.length * s ∧ ∀ i x, l[i]? = some x → R (chunk xs s i) x
theorem seq_chunks {α : Type} {R : List Value → α → Prop} {s : Nat} {w : World} {v : Value} {l : List α} (h : Seq R s w v l) : ∃ xs, Row w v s l.length xs ∧ Chunks R s xs l := by
  obtain ⟨xs, h1, h2⟩ := h
  refine ⟨xs, h1, ?_, h2⟩
  obtain ⟨_, _, _, _, _, h, _⟩ := h1
  exact h
theorem chunks_seq {α : Type} {R : List Value → α → Prop} {s : Nat} {w : World} {v : Value} {l : List α} {xs : List Value} (h : Row w v s l.length xs) (hc : Chunks R s xs l) : Seq R s w v l := ⟨xs, h, hc.2⟩
theorem Chunks.imp {α : Type} {R R' : List Value → α → Prop} {s : Nat} {xs : List Value} {l : List α} (h : Chunks R s xs l) (hR : ∀ cs x, R cs x → R' cs x) : Chunks R' s xs l := ⟨h.1, fun i x hx => hR _ _ (h.2 i x hx)⟩
theorem Chunks.append {α : Type} {R : List Value → α → Prop} {s : Nat} {xs ys : List Value} {l m : List α} (h : Chunks R s xs l) (h' : Chunks R s ys m) : Chunks R s (xs ++ ys) (l ++ m) := by
  refine ⟨by rw [List.length_append, List.length_append, h.1, h'.1, Nat.add_mul], fun i x hx => ?_⟩
  rcases Nat.lt_or_ge i l.length with h1 | h1
  · rw [List.getElem?_append_left h1] at hx
    rw [chunk_append_left xs ys l.length s i h.1 h1]
    exact h.2 i x hx
  · rw [List.getElem?_append_right h1] at hx
    obtain ⟨j, rfl⟩ : ∃ j, i = l.length + j := ⟨i - l.length, by omega⟩
    rw [chunk_append_right xs ys l.length s j h.1]
    exact h'.2 j x (by rwa [Nat.add_sub_cancel_left] at hx)
theorem Chunks.one {α : Type} {R : List Value → α → Prop} {s : Nat} {c : List Value} {x : α} (hc : c.length = s) (h : R c x) : Chunks R s c [x] := by
  refine ⟨by simp [hc], fun i y hy => ?_⟩
  match i, hy with
  | 0, hy => simp at hy; subst hy; rw [chunk_one c s hc]; exact h
  | i + 1, hy => simp at hy
theorem Chunks.drop {α : Type} {R : List Value → α → Prop} {s : Nat} {xs : List Value} {l : List α} (h : Chunks R s xs l) (m : Nat) : Chunks R s (xs.drop (m * s)) (l.drop m) := by
  refine ⟨by rw [List.length_drop, List.length_drop, h.1, Nat.sub_mul], fun i x hx => ?_⟩
  rw [List.getElem?_drop] at hx
  rw [chunk_drop]
  exact h.2 _ x hx
theorem Chunks.take {α : Type} {R : List Value → α → Prop} {s : Nat} {xs : List Value} {l : List α} (h : Chunks R s xs l) (m : Nat) (hm : m ≤ l.length) : Chunks R s (xs.take (m * s)) (l.take m) := by
  have h1 : m * s ≤ l.length * s := Nat.mul_le_mul_right _ hm
  refine ⟨by rw [List.length_take, List.length_take, h.1, Nat.min_eq_left h1, Nat.min_eq_left hm], fun i x hx => ?_⟩
  rw [List.getElem?_take] at hx
  split at hx
  · rename_i hi
    rw [chunk_take _ _ _ _ hi]
    exact h.2 _ x hx
  · cases hx
/-- An element is laid anew, cell by cell. -/
theorem Chunks.set3 {α : Type} {R : List Value → α → Prop} {xs : List Value} {l : List α} (h : Chunks R 3 xs l) (i : Nat) (hi : i < l.length) (a b c : Value) (y : α) (hR : R [a, b, c] y) : Chunks R 3 (((xs.set (i * 3) a).set (i * 3 + 1) b).set (i * 3 + 2) c) (l.set i y) := by
  refine ⟨by simp [h.1], fun j x hx => ?_⟩
  by_cases hj : j = i
  · subst hj
    rw [List.getElem?_set_self hi] at hx
    cases hx
    rw [chunk_set_same _ 3 j 2 c (by omega), chunk_set_same _ 3 j 1 b (by omega), show j * 3 = j * 3 + 0 from rfl, chunk_set_same _ 3 j 0 a (by omega)]
    have hl : (chunk xs 3 j).length = 3 := by
      unfold chunk
      rw [List.length_take, List.length_drop, h.1]
      omega
    match hc : chunk xs 3 j, hl with
    | [_, _, _], _ => exact hR
  · rw [List.getElem?_set_ne (Ne.symm hj)] at hx
    rw [chunk_set_other _ 3 i j 2 c (by omega) hj, chunk_set_other _ 3 i j 1 b (by omega) hj, show i * 3 = i * 3 + 0 from rfl, chunk_set_other _ 3 i j 0 a (by omega) hj]
    exact h.2 j x hx
/-- Every cell is one of an element's. -/
theorem Chunks.mem {α : Type} {R : List Value → α → Prop} {s : Nat} {xs : List Value} {l : List α} (h : Chunks R s xs l) (h0 : 0 < s) (u : Value) (hu : u ∈ xs) : ∃ c x, R c x ∧ u ∈ c := by
  obtain ⟨j, hj⟩ := List.getElem?_of_mem hu
  have hjl : j < l.length * s := by rw [← h.1]; exact (List.getElem?_eq_some_iff.1 hj).1
  have hi : j / s < l.length := (Nat.div_lt_iff_lt_mul h0).2 hjl
  have hr : j % s < s := Nat.mod_lt _ h0
  have hjd : j / s * s + j % s = j := by rw [Nat.mul_comm]; exact Nat.div_add_mod j s
  refine ⟨chunk xs s (j / s), l[j / s], h.2 _ _ (List.getElem?_eq_getElem hi), ?_⟩
  apply List.mem_of_getElem? (i := j % s)
  unfold chunk
  rw [List.getElem?_take, if_pos hr, List.getElem?_drop, hjd]
  exact hj
end Go.Proofs.Ytdjhkjidakimhaa
