/- Slices in memory that are only read: what a slice's cells are; kept while memory grows. No program. -/
import Derived.Below
import Derived.WalkSmall
namespace Go.Proofs.YtkjcjenkepejgaaDoor
open Go.RowKit

theorem bcell {W w1 : World} (hb : Below W.heap.size W w1) : (∀ b o, b < W.heap.size → w1.cell? ⟨b, o, none⟩ = W.cell? ⟨b, o, none⟩) ∧ (∀ b o, b < W.heap.size → w1.frozen? ⟨b, o, none⟩ = W.frozen? ⟨b, o, none⟩) :=
  ⟨fun b o h => hb.cell (p := ⟨b, o, none⟩) h, fun b o h => hb.frozen (p := ⟨b, o, none⟩) h⟩
theorem bthen {w w1 w2 : World} (h1 : Below w.heap.size w w1) (h2 : Below w1.heap.size w1 w2) : Below w.heap.size w w2 := h1.trans (h2.mono h1.size)
theorem bdrew {w w1 : World} (h1 : Below w.heap.size w w1) (n : Nat) : Below w.heap.size w (w1.drewN n) := below_drewN h1 n
theorem ret_bool {a b : Bool} (h : a = b) : Ending.returned (.bool a) = .returned (.bool b) := by rw [h]
theorem ret_int {k : IntKind} {a b : Int} (h : a = b) : Ending.returned (.int k a) = .returned (.int k b) := by rw [h]

/-- A slice of n elements of so many cells each, whose cells are xs. -/
def Row (w : World) (v : Value) (size n : Nat) (xs : List Value) : Prop :=
  ∃ a cap, v = .slice a n cap ∧ n ≤ cap ∧ cap ≤ maxLen ∧ xs.length = n * size ∧ (a = none → cap = 0) ∧
    (n = 0 ∨ ∃ g o, a = some ⟨g, o, none⟩ ∧ g < w.heap.size ∧ ∀ j u, xs[j]? = some u → w.cell? ⟨g, o + j, none⟩ = some u)

theorem Row.below {w w' : World} {v : Value} {size n : Nat} {xs : List Value} (h : Row w v size n xs) (hb : Below w.heap.size w w') : Row w' v size n xs := by
  obtain ⟨a, cap, hv, h1, h2, h3, h4, h5⟩ := h
  refine ⟨a, cap, hv, h1, h2, h3, h4, ?_⟩
  rcases h5 with h5 | ⟨g, o, ha, hg, hc⟩
  · exact .inl h5
  · exact .inr ⟨g, o, ha, Nat.lt_of_lt_of_le hg hb.size, fun j u hu => (hb.cell (p := ⟨g, _, none⟩) hg).trans (hc j u hu)⟩
theorem Row.drew {w : World} {v : Value} {size n : Nat} {xs : List Value} (h : Row w v size n xs) (k : Nat) : Row (w.drewN k) v size n xs := h.below (bdrew (Below.refl _ _) k)

theorem own_below {w w' : World} {B e size n : Nat} {v : Value} {xs : List Value} (h : w.ownsRow B e size v n xs) (hb : Below w.heap.size w w') : w'.ownsRow B e size v n xs := by
  obtain ⟨h1, h2⟩ := h
  refine ⟨h1, ?_⟩
  rcases h2 with h2 | ⟨g, cap, cur, hv, hg, hh, r⟩
  · exact .inl h2
  · exact .inr ⟨g, cap, cur, hv, hg, by rw [hb.block g (by rcases Nat.lt_or_ge g w.heap.size with h | h; exact h; simp [Array.getElem?_eq_none h] at hh)]; exact hh, r⟩
theorem own_shape {w : World} {B e size n : Nat} {v : Value} {xs : List Value} (h : w.ownsRow B e size v n xs) : ∃ a cap, v = .slice a n cap := by
  rcases h.2 with ⟨rfl, rfl⟩ | ⟨g, cap, cur, hv, _⟩
  · exact ⟨_, _, rfl⟩
  · exact ⟨_, _, hv⟩
theorem own_lt {w : World} {B e size n : Nat} {v : Value} {xs : List Value} (h : w.ownsRow B e size v n xs) (x : Nat) (hx : w.heap.size ≤ x) : some x ≠ v.ownBlock :=
  fun h1 => by have := (h.lt x h1.symm).2; omega
theorem own_ge {w : World} {B e size n : Nat} {v : Value} {xs : List Value} (h : w.ownsRow B e size v n xs) : ∀ k, v.ownBlock = some k → B ≤ k := fun k hk => (h.lt k hk).1
theorem new_cells (W : World) (l : List Value) (e n : Nat) (hn : n = W.heap.size) : ∀ j u, l[j]? = some u → (W.alloc (.cells l.toArray e)).cell? ((⟨n, 0, none⟩ : Addr).add j) = some u := by
  intro j u h
  subst hn
  have h0 : (⟨W.heap.size, 0, none⟩ : Addr).add j = ⟨W.heap.size, j, none⟩ := by
    unfold Addr.add
    split <;> simp_all
  rw [h0]
  have h1 : (W.alloc (.cells l.toArray e)).heap[W.heap.size]? = some (.cells l.toArray e) := by
    show (W.heap.push (.cells l.toArray e))[W.heap.size]? = _
    rw [Array.getElem?_push, if_pos rfl]
  unfold World.cell?
  simp only [h1]
  simpa using h

theorem row_of_own {w : World} {B e size n : Nat} {v : Value} {xs : List Value} (h : w.ownsRow B e size v n xs) : Row w v size n xs := by
  obtain ⟨h1, h2⟩ := h
  rcases h2 with ⟨rfl, rfl⟩ | ⟨g, cap, cur, hv, hg, hh, hle, hcap, hcs, htk⟩
  · exact ⟨none, 0, rfl, by omega, by simp [maxLen], h1, fun _ => rfl, .inl rfl⟩
  · refine ⟨some ⟨g, 0, none⟩, cap, hv, hle, hcap, h1, (fun h => by cases h), .inr ⟨g, 0, rfl, ?_, fun j u hu => ?_⟩⟩
    · rcases Nat.lt_or_ge g w.heap.size with h | h
      · exact h
      · simp [Array.getElem?_eq_none h] at hh
    · have hj : (cur.toList.take (n * size))[j]? = some u := by rw [htk]; exact hu
      rw [List.getElem?_take] at hj
      unfold World.cell?
      simp only [hh, Nat.zero_add]
      split at hj
      · simpa using hj
      · cases hj
theorem row_nil (w : World) (size : Nat) : Row w (.slice none 0 0) size 0 [] := ⟨none, 0, rfl, by simp, by simp [maxLen], by simp, fun _ => rfl, .inl rfl⟩

/-- A slice, opened for a walk: its length is n; it is empty, or it leads to cells. -/
theorem Row.open {w : World} {v : Value} {size n : Nat} {xs : List Value} (h : Row w v size n xs) : ∃ a cap, v = .slice a n cap ∧ n ≤ cap ∧ cap ≤ 9223372036854775807 ∧ (a = none → cap = 0) ∧
    (0 < n → ∃ g o, a = some ⟨g, o, none⟩ ∧ g < w.heap.size ∧ ∀ j u, xs[j]? = some u → w.cell? ⟨g, o + j, none⟩ = some u) := by
  obtain ⟨a, cap, hv, h1, h2, h3, h4, h5⟩ := h
  unfold maxLen at h2
  refine ⟨a, cap, hv, h1, by omega, h4, fun hn => ?_⟩
  rcases h5 with h5 | h5
  · omega
  · exact h5

/-- The cells of a slice of n elements of k cells each, by element. -/
theorem flat_get {α : Type} (f : α → List Value) (k : Nat) (hf : ∀ x, (f x).length = k) (l : List α) : ∀ (i j : Nat) (x : α) (u : Value), l[i]? = some x → (f x)[j]? = some u → (l.flatMap f)[i * k + j]? = some u := by
  induction l with
  | nil => intro i j x u h; simp at h
  | cons y l ih =>
    intro i j x u h hu
    rw [List.flatMap_cons]
    have hj : j < k := by have := (List.getElem?_eq_some_iff.1 hu).1; rw [hf] at this; exact this
    cases i with
    | zero =>
      simp at h; subst h
      rw [Nat.zero_mul, Nat.zero_add, List.getElem?_append_left (by rw [hf]; exact hj)]; exact hu
    | succ i =>
      rw [Nat.succ_mul, List.getElem?_append_right (by rw [hf]; omega), hf, show i * k + k + j - k = i * k + j by omega]
      exact ih i j x u (by simpa using h) hu
theorem flat_len {α : Type} (f : α → List Value) (k : Nat) (hf : ∀ x, (f x).length = k) (l : List α) : (l.flatMap f).length = l.length * k := by
  induction l with
  | nil => simp
  | cons y l ih => rw [List.flatMap_cons, List.length_append, hf, ih, List.length_cons, Nat.succ_mul]; omega

/-- A slice into a new block. -/
theorem row_alloc_off (W : World) (xs ys : List Value) (e size n cap o : Nat) (hn : n ≤ cap) (hc : cap ≤ 9223372036854775807) (hy : ys.length = n * size) (hxs : ∀ j u, ys[j]? = some u → xs[o + j]? = some u) :
    Row (W.alloc (.cells xs.toArray e)) (.slice (some ⟨W.heap.size, o, none⟩) n cap) size n ys := by
  refine ⟨_, cap, rfl, hn, by unfold maxLen; omega, hy, (fun h => by cases h), .inr ⟨_, o, rfl, by simp, fun j u hu => ?_⟩⟩
  have h1 : (W.alloc (.cells xs.toArray e)).heap[W.heap.size]? = some (.cells xs.toArray e) := by
    show (W.heap.push (.cells xs.toArray e))[W.heap.size]? = _
    rw [Array.getElem?_push, if_pos rfl]
  unfold World.cell?
  simp only [h1]
  have := hxs j u hu
  simpa using this
theorem row_alloc (W : World) (xs : List Value) (e size n : Nat) (hn : n ≤ 9223372036854775807) (hy : xs.length = n * size) :
    Row (W.alloc (.cells xs.toArray e)) (.slice (some ⟨W.heap.size, 0, none⟩) n n) size n xs :=
  row_alloc_off W xs xs e size n n 0 (Nat.le_refl _) hn hy (fun j u h => by rw [Nat.zero_add]; exact h)

/-- A slice of integers. -/
def Ints (k : IntKind) (w : World) (v : Value) (l : List Int) : Prop := Row w v 1 l.length (l.map (.int k))
theorem Ints.below {k : IntKind} {w w' : World} {v : Value} {l : List Int} (h : Ints k w v l) (hb : Below w.heap.size w w') : Ints k w' v l := Row.below h hb
theorem Ints.open {k : IntKind} {w : World} {v : Value} {l : List Int} (h : Ints k w v l) : ∃ a cap, v = .slice a l.length cap ∧ l.length ≤ cap ∧ cap ≤ 9223372036854775807 ∧ (a = none → cap = 0) ∧
    (0 < l.length → ∃ g o, a = some ⟨g, o, none⟩ ∧ g < w.heap.size ∧ ∀ i x, l[i]? = some x → w.cell? ⟨g, o + i, none⟩ = some (.int k x)) := by
  obtain ⟨a, cap, hv, h1, h2, h3, h4⟩ := Row.open h
  refine ⟨a, cap, hv, h1, h2, h3, fun hn => ?_⟩
  obtain ⟨g, o, ha, hg, hc⟩ := h4 hn
  exact ⟨g, o, ha, hg, fun i x hx => hc i _ (by rw [List.getElem?_map, hx]; rfl)⟩
end Go.Proofs.YtkjcjenkepejgaaDoor
