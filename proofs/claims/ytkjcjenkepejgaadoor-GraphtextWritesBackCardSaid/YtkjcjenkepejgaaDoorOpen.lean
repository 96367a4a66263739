/- From a claim's reading of its arguments to what their cells are. No program. -/
import Derived.Test.YtkjcjenkepejgaaDoorRow
import Derived.Deep.Slices
import Derived.ChangeArms
import Derived.OpenShut
import Derived.WideShapes
namespace Go.Proofs.YtkjcjenkepejgaaDoor
open Go.ChangeShapes Go.WideShapes Go.RowKit

/-- The cells read as something of this type. -/
def Rd {H : Type} (enc : TypeId × Value → H) (P : Program) (w : World) (t : TypeId) (cs : List Value) : Prop := ∃ fuel x, DataW.trod enc P w 0 (fun _ => true) true fuel t cs = some x

section
variable {H : Type} {enc : TypeId × Value → H} {P : Program} {w : World} {t : TypeId} {cs : List Value}

theorem rd_int {k : IntKind} (ht : P.underlying t = some (.int k)) (h : Rd enc P w t cs) : ∃ n, cs = [.int k n] ∧ (Lit.int k n).wf = true := by
  obtain ⟨fuel, x, h⟩ := h
  obtain ⟨n, h1, _, h2⟩ := DataW.trod_int ht h
  exact ⟨n, h1, h2⟩
theorem wf64 {n : Int} (h : (Lit.int .i64 n).wf = true) : -9223372036854775808 ≤ n ∧ n ≤ 9223372036854775807 := by
  simp only [Lit.wf, Bool.and_eq_true, decide_eq_true_eq] at h
  have e1 : IntKind.i64.min = -9223372036854775808 := by decide
  have e2 : IntKind.i64.max = 9223372036854775807 := by decide
  omega
theorem rd_int64 (ht : P.underlying t = some (.int .i64)) (h : Rd enc P w t cs) : ∃ n, cs = [.int .i64 n] ∧ -9223372036854775808 ≤ n ∧ n ≤ 9223372036854775807 := by
  obtain ⟨n, h1, h2⟩ := rd_int ht h
  exact ⟨n, h1, wf64 h2⟩
theorem rd_string (ht : P.underlying t = some .string) (h : Rd enc P w t cs) : ∃ s : ByteArray, cs = [.string s] ∧ s.size ≤ maxLen := by
  obtain ⟨fuel, x, h⟩ := h
  obtain ⟨s, h1, _, h2⟩ := DataW.trod_string ht h
  exact ⟨s, h1, h2⟩
theorem rd_bool (ht : P.underlying t = some .bool) (h : Rd enc P w t cs) : ∃ b, cs = [.bool b] := by
  obtain ⟨fuel, x, h⟩ := h
  obtain ⟨b, h1, _⟩ := DataW.trod_bool ht h
  exact ⟨b, h1⟩
theorem rd_struct {fs : Array Field} (ht : P.underlying t = some (.struct fs)) (h : Rd enc P w t cs) :
    cs.length = P.cellsOf t ∧ ∀ (i : Nat) (f : Field), fs[i]? = some f → Rd enc P w f.type ((cs.drop f.offset).take (P.cellsOf f.type)) := by
  obtain ⟨fuel, x, h⟩ := h
  obtain ⟨xs, n, _, _, h1, h2, h3⟩ := DataW.trod_struct ht h
  refine ⟨h1, fun i f hf => ?_⟩
  have hi : i < xs.length := by rw [h2]; exact (Array.getElem?_eq_some_iff.1 hf).1
  exact ⟨n, xs[i], by rw [h3 i f hf, List.getElem?_eq_getElem hi]⟩
theorem rd_slice {e : TypeId} (ht : P.underlying t = some (.slice e)) (h : Rd enc P w t cs) :
    cs = [.slice none 0 0] ∨ ∃ (a : Addr) (len cap : Nat), cs = [.slice (some a) len cap] ∧ len ≤ cap ∧ cap ≤ maxLen ∧
      ∀ i, i < len → ∃ cs', cs'.length = P.cellsOf e ∧ (∀ j, j < P.cellsOf e → w.cell? ((a.add (i * P.cellsOf e)).add j) = cs'[j]?) ∧ Rd enc P w e cs' := by
  obtain ⟨fuel, x, h⟩ := h
  rcases Deep.open_slice ht h with ⟨h0, _⟩ | ⟨a, len, cap, m, n, D, Pl, h1, _, h2, h3, h4, _, h5⟩
  · exact .inl h0
  · refine .inr ⟨a, len, cap, h1, h2, h3, fun i hi => ?_⟩
    have hm : m = cap := by simpa using h4
    obtain ⟨cs', h6, h7⟩ := h5 i (by omega)
    obtain ⟨_, h8, h9⟩ := World.cells?_some h6
    exact ⟨cs', h8, h9, ⟨n, _, h7⟩⟩
end

/-- A slice whose elements' cells are related to the elements of a list. -/
def Seq {α : Type} (R : List Value → α → Prop) (size : Nat) (w : World) (v : Value) (l : List α) : Prop :=
  ∃ xs, Row w v size l.length xs ∧ ∀ i x, l[i]? = some x → R ((xs.drop (i * size)).take size) x

theorem Seq.below {α : Type} {R R' : List Value → α → Prop} {size : Nat} {w w' : World} {v : Value} {l : List α} (h : Seq R size w v l) (hb : Below w.heap.size w w') (hR : ∀ cs x, R cs x → R' cs x) : Seq R' size w' v l := by
  obtain ⟨xs, h1, h2⟩ := h
  exact ⟨xs, h1.below hb, fun i x hx => hR _ _ (h2 i x hx)⟩
theorem Seq.imp {α : Type} {R R' : List Value → α → Prop} {size : Nat} {w : World} {v : Value} {l : List α} (h : Seq R size w v l) (hR : ∀ cs x, x ∈ l → R cs x → R' cs x) : Seq R' size w v l := by
  obtain ⟨xs, h1, h2⟩ := h
  exact ⟨xs, h1, fun i x hx => hR _ _ (List.mem_of_getElem? hx) (h2 i x hx)⟩

theorem flat_chunk (f : Nat → List Value) (size : Nat) (hf : ∀ i, (f i).length = size) (n i : Nat) (hi : i < n) : (((List.range n).flatMap f).drop (i * size)).take size = f i := by
  apply List.ext_getElem?
  intro j
  rw [List.getElem?_take]
  split
  · rename_i hj
    rw [List.getElem?_drop]
    obtain ⟨u, hu⟩ : ∃ u, (f i)[j]? = some u := ⟨_, List.getElem?_eq_getElem (by rw [hf]; exact hj)⟩
    rw [hu]
    exact flat_get f size hf (List.range n) i j i u (by rw [List.getElem?_range hi]) hu
  · rename_i hj
    rw [List.getElem?_eq_none (by rw [hf]; omega)]

theorem open_seq {H : Type} {enc : TypeId × Value → H} {P : Program} {w : World} {t e : TypeId} {cs : List Value} {α : Type} {R : List Value → α → Prop} {size : Nat} (ht : P.underlying t = some (.slice e)) (hs : P.cellsOf e = size) (h0 : 0 < size)
    (hR : ∀ cs, Rd enc P w e cs → ∃ x, R cs x) (h : Rd enc P w t cs) : ∃ v l, cs = [v] ∧ Seq R size w v l := by
  rcases rd_slice ht h with rfl | ⟨a, len, cap, rfl, h1, h2, h3⟩
  · exact ⟨_, [], rfl, [], row_nil w size, fun i x hx => by simp at hx⟩
  · rw [hs] at h3
    by_cases hl : len = 0
    · subst hl
      exact ⟨_, [], rfl, [], ⟨_, cap, rfl, by simp, h2, by simp, (fun h => by cases h), .inl rfl⟩, fun i x hx => by simp at hx⟩
    have hch : ∀ i : Nat, ∃ q : List Value, q.length = size ∧ (i < len → (∀ j, j < size → w.cell? ((a.add (i * size)).add j) = q[j]?) ∧ ∃ x, R q x) := by
      intro i
      by_cases hi : i < len
      · obtain ⟨c, c1, c2, c3⟩ := h3 i hi
        exact ⟨c, c1, fun _ => ⟨c2, hR c c3⟩⟩
      · exact ⟨List.replicate size undef, by simp, fun h => absurd h hi⟩
    obtain ⟨f, hf⟩ := Classical.axiomOfChoice hch
    obtain ⟨x0, _⟩ := ((hf 0).2 (by omega)).2
    have hx : ∀ i : Nat, ∃ x : α, i < len → R (f i) x := by
      intro i
      by_cases hi : i < len
      · obtain ⟨x, hx⟩ := ((hf i).2 hi).2
        exact ⟨x, fun _ => hx⟩
      · exact ⟨x0, fun h => absurd h hi⟩
    obtain ⟨g, hg⟩ := Classical.axiomOfChoice hx
    have hc0 : w.cell? a = (f 0)[0]? := by
      have := ((hf 0).2 (by omega)).1 0 h0
      simpa [Addr.add] using this
    obtain ⟨u0, hu0⟩ : ∃ u, (f 0)[0]? = some u := ⟨_, List.getElem?_eq_getElem (by rw [(hf 0).1]; exact h0)⟩
    rw [hu0] at hc0
    obtain ⟨b, o, sp⟩ := a
    have hsp : sp = none := by
      unfold World.cell? at hc0
      split at hc0
      · split at hc0
        · cases hc0
        · rename_i hsp; simpa using hsp
      · cases hc0
    subst hsp
    have hb : b < w.heap.size := by
      rcases Nat.lt_or_ge b w.heap.size with h | h
      · exact h
      · unfold World.cell? at hc0; simp [Array.getElem?_eq_none h] at hc0
    have hadd : ∀ n : Nat, (⟨b, o, none⟩ : Addr).add n = ⟨b, o + n, none⟩ := by intro n; unfold Addr.add; split <;> simp_all
    refine ⟨_, (List.range len).map g, rfl, (List.range len).flatMap f, ?_, ?_⟩
    · rw [List.length_map, List.length_range]
      refine ⟨_, cap, rfl, h1, h2, by rw [flat_len f size (fun i => (hf i).1), List.length_range], (fun h => by cases h), .inr ⟨b, o, rfl, hb, fun j u hu => ?_⟩⟩
      have hj : j < len * size := by
        have := (List.getElem?_eq_some_iff.1 hu).1
        rw [flat_len f size (fun i => (hf i).1), List.length_range] at this; exact this
      have hi : j / size < len := (Nat.div_lt_iff_lt_mul h0).2 hj
      have hr : j % size < size := Nat.mod_lt _ h0
      have hjd : j / size * size + j % size = j := by rw [Nat.mul_comm]; exact Nat.div_add_mod j size
      have c := ((hf (j / size)).2 hi).1 (j % size) hr
      obtain ⟨u', hu'⟩ : ∃ u, (f (j / size))[j % size]? = some u := ⟨_, List.getElem?_eq_getElem (by rw [(hf _).1]; exact hr)⟩
      have e1 := flat_get f size (fun i => (hf i).1) (List.range len) (j / size) (j % size) (j / size) u' (by rw [List.getElem?_range hi]) hu'
      rw [hjd, hu] at e1
      cases e1
      rw [hadd] at c
      have h5 : (⟨b, o + j / size * size, none⟩ : Addr).add (j % size) = ⟨b, o + j, none⟩ := by
        have : (⟨b, o + j / size * size, none⟩ : Addr).add (j % size) = ⟨b, o + j / size * size + j % size, none⟩ := by unfold Addr.add; split <;> simp_all
        rw [this, Nat.add_assoc, hjd]
      rw [h5] at c
      rw [c, hu']
    · intro i x hx
      have hi : i < len := by
        have := (List.getElem?_eq_some_iff.1 hx).1
        simpa using this
      rw [List.getElem?_map, List.getElem?_range hi] at hx
      simp at hx
      subst hx
      rw [flat_chunk f size (fun i => (hf i).1) len i hi]
      exact hg i hi

/-- If the elements' cells are a function of the elements, the slice's cells are those of all elements. -/
theorem seq_flat {α : Type} {R : List Value → α → Prop} {size : Nat} {w : World} {v : Value} {l : List α} (f : α → List Value) (hf : ∀ x, (f x).length = size) (h0 : 0 < size) (h : Seq R size w v l) (hR : ∀ cs x, R cs x → cs = f x) : Row w v size l.length (l.flatMap f) := by
  obtain ⟨xs, ⟨a, cap, hv, h1, h2, h3, h4, h5⟩, h6⟩ := h
  refine ⟨a, cap, hv, h1, h2, flat_len f size hf l, h4, ?_⟩
  rcases h5 with h5 | ⟨g, o, ha, hg, hc⟩
  · exact .inl h5
  · refine .inr ⟨g, o, ha, hg, fun j u hu => hc j u ?_⟩
    have hj : j < l.length * size := by
      have := (List.getElem?_eq_some_iff.1 hu).1
      rw [flat_len f size hf] at this; exact this
    have hi : j / size < l.length := (Nat.div_lt_iff_lt_mul h0).2 hj
    have hr : j % size < size := Nat.mod_lt _ h0
    have hjd : j / size * size + j % size = j := by rw [Nat.mul_comm]; exact Nat.div_add_mod j size
    have e1 := flat_get f size hf l (j / size) (j % size) l[j / size] ((f l[j / size])[j % size]'(by rw [hf]; exact hr)) (List.getElem?_eq_getElem hi) (List.getElem?_eq_getElem (by rw [hf]; exact hr))
    rw [hjd, hu] at e1
    cases e1
    have e2 := hR _ _ (h6 (j / size) _ (List.getElem?_eq_getElem hi))
    have e3 : ((xs.drop (j / size * size)).take size)[j % size]? = some ((f l[j / size])[j % size]'(by rw [hf]; exact hr)) := by rw [e2]; exact List.getElem?_eq_getElem (by rw [hf]; exact hr)
    rw [List.getElem?_take, if_pos hr, List.getElem?_drop, hjd] at e3
    exact e3

theorem rd_of {H : Type} {enc : TypeId × Value → H} {P : Program} {w : World} {t : TypeId} {v : Value} {d : DataW H} {ps : List MemPlace} (h : DataW.Trod enc P w 0 (fun _ => true) true t v d ps) : Rd enc P w t v.cells.toList := by
  obtain ⟨fuel, h⟩ := h
  exact ⟨fuel, _, h⟩

/-- An argument that is a slice. -/
theorem open_seq_arg {H : Type} {enc : TypeId × Value → H} {P : Program} {w : World} {base : Nat} {t e : TypeId} {v : Value} {d : DataW H} {ps : List MemPlace} {α : Type} {R : List Value → α → Prop} {size : Nat} (ht : P.underlying t = some (.slice e)) (hs : P.cellsOf e = size) (h0 : 0 < size)
    (hR : ∀ cs, Rd enc P w e cs → ∃ x, R cs x) (hv : Value.okWide P w .any base t v) (h : DataW.Trod enc P w 0 (fun _ => true) true t v d ps) : ∃ l, Seq R size w v l := by
  obtain ⟨a, len, cap, rfl⟩ := okWide_slice ht hv
  obtain ⟨v', l, h1, h2⟩ := open_seq ht hs h0 hR (rd_of h)
  simp [Value.cells] at h1
  subst h1
  exact ⟨l, h2⟩

theorem flat_one (l : List Int) : l.flatMap (fun x => [Value.int .i64 x]) = l.map (.int .i64) := by
  induction l with
  | nil => rfl
  | cons a l ih => rw [List.flatMap_cons, ih]; rfl
/-- An integer of 64 bits. -/
def In64 (n : Int) : Prop := -9223372036854775808 ≤ n ∧ n ≤ 9223372036854775807
theorem open_ints_arg {H : Type} {enc : TypeId × Value → H} {P : Program} {w : World} {base : Nat} {t e : TypeId} {v : Value} {d : DataW H} {ps : List MemPlace} (ht : P.underlying t = some (.slice e)) (he : P.underlying e = some (.int .i64)) (hs : P.cellsOf e = 1)
    (hv : Value.okWide P w .any base t v) (h : DataW.Trod enc P w 0 (fun _ => true) true t v d ps) : ∃ l, Ints .i64 w v l ∧ ∀ x ∈ l, In64 x := by
  obtain ⟨l, hl⟩ := open_seq_arg (R := fun cs x => cs = [.int .i64 x] ∧ In64 x) ht hs (Nat.one_pos) (fun cs h => by obtain ⟨n, h1, h2⟩ := rd_int64 he h; exact ⟨n, h1, h2⟩) hv h
  refine ⟨l, ?_, fun x hx => ?_⟩
  · have := seq_flat (fun x => [.int .i64 x]) (fun _ => rfl) (Nat.one_pos) hl (fun cs x h => h.1)
    unfold Ints
    rwa [flat_one l] at this
  · obtain ⟨xs, _, h2⟩ := hl
    obtain ⟨i, hi⟩ := List.getElem?_of_mem hx
    exact (h2 i x hi).2
end Go.Proofs.YtkjcjenkepejgaaDoor
