/- Graphs as data in memory; kept while memory grows; opened from an argument. -/
import Derived.Test.YtkjcjenkepejgaaDoorRows
import Derived.Test.YtkjcjenkepejgaaDoorOpen
import Derived.Test.YtkjcjenkepejgaaDoorGraph
set_option linter.unusedVariables false
set_option maxRecDepth 100000
namespace Go.Proofs.YtkjcjenkepejgaaDoor
open Go.ChangeShapes Go.WideShapes Go.RowKit

/-- A slice of pairs of integers. -/
def Pairs (w : World) (v : Value) (l : List Lk) : Prop := Row w v 2 l.length (l.flatMap fun t => [.int .i64 t.1, .int .i64 t.2])
theorem Pairs.below {w w' : World} {v : Value} {l : List Lk} (h : Pairs w v l) (hb : Below w.heap.size w w') : Pairs w' v l := Row.below h hb
theorem Pairs.open {w : World} {v : Value} {l : List Lk} (h : Pairs w v l) : ∃ a cap, v = .slice a l.length cap ∧ l.length ≤ cap ∧ cap ≤ 9223372036854775807 ∧
    (0 < l.length → ∃ g o, a = some ⟨g, o, none⟩ ∧ g < w.heap.size ∧ ∀ i t, l[i]? = some t → w.cell? ⟨g, o + i * 2, none⟩ = some (.int .i64 t.1) ∧ w.cell? ⟨g, o + i * 2 + 1, none⟩ = some (.int .i64 t.2)) := by
  obtain ⟨a, cap, hv, h1, h2, h3, h4⟩ := Row.open h
  refine ⟨a, cap, hv, h1, h2, fun hn => ?_⟩
  obtain ⟨g, o, ha, hg, hc⟩ := h4 hn
  exact ⟨g, o, ha, hg, fun i t ht => ⟨hc _ _ (flat_get _ 2 (fun _ => rfl) l i 0 t _ ht rfl), hc _ _ (flat_get _ 2 (fun _ => rfl) l i 1 t _ ht rfl)⟩⟩
def LinksOk (w : World) (cs : List Value) (l : List Lk) : Prop := ∃ v, cs = [v] ∧ Pairs w v l
theorem LinksOk.below {w w' : World} {cs : List Value} {l : List Lk} (hb : Below w.heap.size w w') (h : LinksOk w cs l) : LinksOk w' cs l := by
  obtain ⟨v, h1, h2⟩ := h
  exact ⟨v, h1, h2.below hb⟩
def PortsOk (w : World) (v : Value) (ports : List (List Lk)) : Prop := Seq (LinksOk w) 1 w v ports
theorem PortsOk.below {w w' : World} {v : Value} {l : List (List Lk)} (h : PortsOk w v l) (hb : Below w.heap.size w w') : PortsOk w' v l := Seq.below h hb fun _ _ => LinksOk.below hb
def GraphOk (w : World) (v : Value) (g : GraphD) : Prop := ∃ iv pv, v = .agg #[iv, pv] ∧ Ints .i64 w iv g.ids ∧ PortsOk w pv g.ports
theorem GraphOk.below {w w' : World} {v : Value} {g : GraphD} (h : GraphOk w v g) (hb : Below w.heap.size w w') : GraphOk w' v g := by
  obtain ⟨iv, pv, h1, h2, h3⟩ := h
  exact ⟨iv, pv, h1, h2.below hb, h3.below hb⟩
def LinkIn (t : Lk) : Prop := In64 t.1 ∧ In64 t.2
def GraphIn (g : GraphD) : Prop := (∀ x ∈ g.ids, In64 x) ∧ ∀ l ∈ g.ports, ∀ t ∈ l, LinkIn t

/-- A slice of elements, opened for a walk. -/
theorem seqOpen {α : Type} {R : List Value → α → Prop} {size : Nat} {w : World} {v : Value} {l : List α} (h : Seq R size w v l) : ∃ a cap, v = .slice a l.length cap ∧ l.length ≤ cap ∧ cap ≤ 9223372036854775807 ∧
    (0 < l.length → ∃ g o, a = some ⟨g, o, none⟩ ∧ g < w.heap.size ∧ ∀ i x, l[i]? = some x → ∃ cs, cs.length = size ∧ R cs x ∧ ∀ j u, cs[j]? = some u → w.cell? ⟨g, o + i * size + j, none⟩ = some u) := by
  obtain ⟨xs, h1, h2⟩ := h
  have hlen : xs.length = l.length * size := by obtain ⟨_, _, _, _, _, h, _⟩ := h1; exact h
  obtain ⟨a, cap, hv, h3, h4, _, h5⟩ := Row.open h1
  refine ⟨a, cap, hv, h3, h4, fun hn => ?_⟩
  obtain ⟨g, o, ha, hg, hc⟩ := h5 hn
  refine ⟨g, o, ha, hg, fun i x hx => ⟨_, ?_, h2 i x hx, fun j u hu => ?_⟩⟩
  · have hi := (List.getElem?_eq_some_iff.1 hx).1
    rw [List.length_take, List.length_drop, hlen]
    have : i * size + size ≤ l.length * size := by rw [← Nat.succ_mul]; exact Nat.mul_le_mul_right _ hi
    omega
  · rw [List.getElem?_take] at hu
    split at hu
    · rw [List.getElem?_drop] at hu
      have := hc _ u hu
      rw [← Nat.add_assoc] at this
      exact this
    · cases hu
theorem PortsOk.open {w : World} {v : Value} {l : List (List Lk)} (h : PortsOk w v l) : ∃ a cap, v = .slice a l.length cap ∧ l.length ≤ cap ∧ cap ≤ 9223372036854775807 ∧
    (0 < l.length → ∃ g o, a = some ⟨g, o, none⟩ ∧ g < w.heap.size ∧ ∀ i x, l[i]? = some x → ∃ pv, Pairs w pv x ∧ w.cell? ⟨g, o + i, none⟩ = some pv) := by
  obtain ⟨a, cap, hv, h3, h4, h5⟩ := seqOpen h
  refine ⟨a, cap, hv, h3, h4, fun hn => ?_⟩
  obtain ⟨g, o, ha, hg, hc⟩ := h5 hn
  refine ⟨g, o, ha, hg, fun i x hx => ?_⟩
  obtain ⟨cs, _, ⟨pv, rfl, q1⟩, q2⟩ := hc i x hx
  have := q2 0 _ rfl
  rw [Nat.mul_one, Nat.add_zero] at this
  exact ⟨pv, q1, this⟩

theorem gcellsInt : Tryd.prog.cellsOf 3 = 1 := by kernel_rfl
theorem cellsLink : Tryd.prog.cellsOf 37 = 2 := by kernel_rfl
theorem cellsInts : Tryd.prog.cellsOf 22 = 1 := by kernel_rfl
theorem cellsLinks : Tryd.prog.cellsOf 35 = 1 := by kernel_rfl
theorem cellsPorts : Tryd.prog.cellsOf 23 = 1 := by kernel_rfl
theorem cellsGraph : Tryd.prog.cellsOf 25 = 2 := by kernel_rfl
section
variable {H : Type} {enc : TypeId × Value → H} {w : World} {cs : List Value} {v : Value} {base : Nat} {d : DataW H} {ps : List MemPlace}
theorem rd_link (h : Rd enc Tryd.prog w 37 cs) : ∃ t : Lk, cs = [.int .i64 t.1, .int .i64 t.2] ∧ LinkIn t := by
  obtain ⟨h1, h2⟩ := rd_struct Tryd.underlying37 h
  rw [cellsLink] at h1
  match cs, h1 with
  | [a, b], _ =>
    have g0 := h2 0 _ rfl
    have g1 := h2 1 _ rfl
    simp [gcellsInt] at g0 g1
    obtain ⟨x, hx, hx'⟩ := rd_int64 Tryd.underlying3 g0
    obtain ⟨y, hy, hy'⟩ := rd_int64 Tryd.underlying3 g1
    simp at hx hy
    exact ⟨(x, y), by simp [hx, hy], hx', hy'⟩
theorem rd_links (h : Rd enc Tryd.prog w 35 cs) : ∃ l, LinksOk w cs l ∧ ∀ t ∈ l, LinkIn t := by
  obtain ⟨v, l, h1, h2⟩ := open_seq (R := fun cs (t : Lk) => cs = [.int .i64 t.1, .int .i64 t.2] ∧ LinkIn t) Tryd.underlying35 cellsLink (Nat.succ_pos 1) (fun cs h => rd_link h) h
  refine ⟨l, ⟨v, h1, seq_flat (fun t : Lk => [.int .i64 t.1, .int .i64 t.2]) (fun _ => rfl) (by omega) h2 (fun cs x h => h.1)⟩, fun x hx => ?_⟩
  obtain ⟨xs, _, h3⟩ := h2
  obtain ⟨i, hi⟩ := List.getElem?_of_mem hx
  exact (h3 i x hi).2
theorem rd_ints (h : Rd enc Tryd.prog w 22 cs) : ∃ v l, cs = [v] ∧ Ints .i64 w v l ∧ ∀ x ∈ l, In64 x := by
  obtain ⟨v, l, h1, hl⟩ := open_seq (R := fun cs x => cs = [.int .i64 x] ∧ In64 x) Tryd.underlying22 gcellsInt Nat.one_pos (fun cs h => by obtain ⟨n, h1, h2⟩ := rd_int64 Tryd.underlying3 h; exact ⟨n, h1, h2⟩) h
  refine ⟨v, l, h1, ?_, fun x hx => ?_⟩
  · have := seq_flat (fun x => [.int .i64 x]) (fun _ => rfl) Nat.one_pos hl (fun cs x h => h.1)
    unfold Ints
    rwa [flat_one l] at this
  · obtain ⟨xs, _, h2⟩ := hl
    obtain ⟨i, hi⟩ := List.getElem?_of_mem hx
    exact (h2 i x hi).2
theorem rd_ports (h : Rd enc Tryd.prog w 23 cs) : ∃ v l, cs = [v] ∧ PortsOk w v l ∧ ∀ x ∈ l, ∀ t ∈ x, LinkIn t := by
  obtain ⟨v, l, h1, h2⟩ := open_seq (R := fun cs l => LinksOk w cs l ∧ ∀ t ∈ l, LinkIn t) Tryd.underlying23 cellsLinks Nat.one_pos (fun cs h => rd_links h) h
  refine ⟨v, l, h1, h2.imp fun _ _ _ h => h.1, fun x hx => ?_⟩
  obtain ⟨xs, _, h3⟩ := h2
  obtain ⟨i, hi⟩ := List.getElem?_of_mem hx
  exact (h3 i x hi).2
theorem open_graph (hv : Value.okWide Tryd.prog w .any base 25 v) (h : DataW.Trod enc Tryd.prog w 0 (fun _ => true) true 25 v d ps) : ∃ g, GraphOk w v g ∧ GraphIn g := by
  obtain ⟨cs, rfl, hcs⟩ : ∃ cs, v = .agg cs ∧ cs.size = Tryd.prog.cellsOf 25 := by
    unfold Value.okWide at hv
    rw [Tryd.underlying25] at hv
    obtain ⟨cs, h1, h2, _⟩ := hv
    exact ⟨cs, h1, h2⟩
  have hr := rd_of h
  simp only [Value.cells] at hr
  obtain ⟨h1, h2⟩ := rd_struct Tryd.underlying25 hr
  rw [cellsGraph] at h1
  obtain ⟨cs⟩ := cs
  simp only at h1 h2
  match cs, h1 with
  | [a, b], _ =>
    have g0 := h2 0 _ rfl
    have g1 := h2 1 _ rfl
    simp [cellsInts, cellsPorts] at g0 g1
    obtain ⟨iv, l, e2, q2, q3⟩ := rd_ints g0
    obtain ⟨pv, rr, e3, q4, q5⟩ := rd_ports g1
    simp at e2 e3
    exact ⟨⟨l, rr⟩, ⟨iv, pv, by simp [e2, e3], q2, q4⟩, q3, q5⟩
end
end Go.Proofs.YtkjcjenkepejgaaDoor
