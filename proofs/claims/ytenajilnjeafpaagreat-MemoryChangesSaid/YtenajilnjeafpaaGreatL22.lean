/- Part 22 of the texts under MemoryRanks,MemoryChanges,MemoryCarries,MemoryCorruptsNamedNodes,MemoryCarriesToItself: joined, with what it needs alone. -/
import Derived.Test.YtenajilnjeafpaaGreatRows
import Derived.Test.YtenajilnjeafpaaGreatL5
import Derived.Test.YtenajilnjeafpaaGreatL8
import Derived.Test.YtenajilnjeafpaaGreatL11
import Derived.Test.YtenajilnjeafpaaGreatL15
set_option linter.unusedVariables false
set_option maxRecDepth 100000
namespace Go.Proofs.YtenajilnjeafpaaGreat
open Go.ChangeShapes Go.WideShapes Go.RowKit

/-- A slice of pairs of integers. -/
def Pairs (w : World) (v : Value) (l : List Lk) : Prop := Row w v 2 l.length (l.flatMap fun t => [.int .i64 t.1, .int .i64 t.2])
theorem Pairs.below {w w' : World} {v : Value} {l : List Lk} (h : Pairs w v l) (hb : Below w.heap.size w w') : Pairs w' v l := Row.below h hb
theorem Pairs.open {w : World} {v : Value} {l : List Lk} (h : Pairs w v l) : ∃ a cap, v = .slice a l.length cap ∧ l.length ≤ cap ∧ cap ≤ 9223372036854775807 ∧
    (0 < l.length → ∃ g o, a = some ⟨g, o, none⟩ ∧ g < w.heap.size ∧ ∀ i t, l[i]? = some t → w.cell? ⟨g, o + i * 2, none⟩ = some (.int .i64 t.1) ∧ w.cell? ⟨g, o + i * 2 + 1, none⟩ = some (.int .i64 t.2)) := by
  obtain ⟨a, cap, hv, h1, h2, h3, h4⟩ := Row.open h
  refine ⟨a, cap, hv, h1, h2, fun hn => ?_⟩
  obtain ⟨g, o, ha, hg, hc⟩ := h4 hn
  exact ⟨g, o, ha, hg, fun i t ht => ⟨hc _ _ (flat_get _ 2 (fun _ => rfl) l i 0 t _ ht rfl), hc _ _ (flat_get _ 2 (fun _ => rfl) l i 1 t _ ht rfl)⟩⟩
def LinksOk (w : World) (cs : List Value) (l : List Lk) : Prop := ∃ v, cs = [v] ∧ Pairs w v l
theorem LinksOk.below {w w' : World} {cs : List Value} {l : List Lk} (hb : Below w.heap.size w w') (h : LinksOk w cs l) : LinksOk w' cs l := by
  obtain ⟨v, h1, h2⟩ := h
  exact ⟨v, h1, h2.below hb⟩
def PortsOk (w : World) (v : Value) (ports : List (List Lk)) : Prop := Seq (LinksOk w) 1 w v ports
theorem PortsOk.below {w w' : World} {v : Value} {l : List (List Lk)} (h : PortsOk w v l) (hb : Below w.heap.size w w') : PortsOk w' v l := Seq.below h hb fun _ _ => LinksOk.below hb
def GraphOk (w : World) (v : Value) (g : GraphD) : Prop := ∃ iv pv, v = .agg #[iv, pv] ∧ Ints .i64 w iv g.ids ∧ PortsOk w pv g.ports
theorem GraphOk.below {w w' : World} {v : Value} {g : GraphD} (h : GraphOk w v g) (hb : Below w.heap.size w w') : GraphOk w' v g := by
  obtain ⟨iv, pv, h1, h2, h3⟩ := h
  exact ⟨iv, pv, h1, h2.below hb, h3.below hb⟩
def LinkIn (t : Lk) : Prop := In64 t.1 ∧ In64 t.2
def GraphIn (g : GraphD) : Prop := (∀ x ∈ g.ids, In64 x) ∧ ∀ l ∈ g.ports, ∀ t ∈ l, LinkIn t

/-- A slice of elements, opened for a walk. -/
theorem seqOpen {α : Type} {R : List Value → α → Prop} {size : Nat} {w : World} {v : Value} {l : List α} (h : Seq R size w v l) : ∃ a cap, v = .slice a l.length cap ∧ l.length ≤ cap ∧ cap ≤ 9223372036854775807 ∧
    (0 < l.length → ∃ g o, a = some ⟨g, o, none⟩ ∧ g < w.heap.size ∧ ∀ i x, l[i]? = some x → ∃ cs, cs.length = size ∧ R cs x ∧ ∀ j u, cs[j]? = some u → w.cell? ⟨g, o + i * size + j, none⟩ = some u) := by
  obtain ⟨xs, h1, h2⟩ := h
  have hlen : xs.length = l.length * size := by obtain ⟨_, _, _, _, _, h, _⟩ := h1; exact h
  obtain ⟨a, cap, hv, h3, h4, _, h5⟩ := Row.open h1
  refine ⟨a, cap, hv, h3, h4, fun hn => ?_⟩
  obtain ⟨g, o, ha, hg, hc⟩ := h5 hn
  refine ⟨g, o, ha, hg, fun i x hx => ⟨_, ?_, h2 i x hx, fun j u hu => ?_⟩⟩
  · have hi := (List.getElem?_eq_some_iff.1 hx).1
    rw [List.length_take, List.length_drop, hlen]
    have : i * size + size ≤ l.length * size := by rw [← Nat.succ_mul]; exact Nat.mul_le_mul_right _ hi
    omega
  · rw [List.getElem?_take] at hu
    split at hu
    · rw [List.getElem?_drop] at hu
      have := hc _ u hu
      rw [← Nat.add_assoc] at this
      exact this
    · cases hu
theorem PortsOk.open {w : World} {v : Value} {l : List (List Lk)} (h : PortsOk w v l) : ∃ a cap, v = .slice a l.length cap ∧ l.length ≤ cap ∧ cap ≤ 9223372036854775807 ∧
    (0 < l.length → ∃ g o, a = some ⟨g, o, none⟩ ∧ g < w.heap.size ∧ ∀ i x, l[i]? = some x → ∃ pv, Pairs w pv x ∧ w.cell? ⟨g, o + i, none⟩ = some pv) := by
  obtain ⟨a, cap, hv, h3, h4, h5⟩ := seqOpen h
  refine ⟨a, cap, hv, h3, h4, fun hn => ?_⟩
  obtain ⟨g, o, ha, hg, hc⟩ := h5 hn
  refine ⟨g, o, ha, hg, fun i x hx => ?_⟩
  obtain ⟨cs, _, ⟨pv, rfl, q1⟩, q2⟩ := hc i x hx
  have := q2 0 _ rfl
  rw [Nat.mul_one, Nat.add_zero] at this
  exact ⟨pv, q1, this⟩

theorem gcellsInt : Tryz.prog.cellsOf 3 = 1 := by kernel_rfl
theorem cellsLink : Tryz.prog.cellsOf 50 = 2 := by kernel_rfl
theorem cellsInts : Tryz.prog.cellsOf 26 = 1 := by kernel_rfl
theorem cellsLinks : Tryz.prog.cellsOf 51 = 1 := by kernel_rfl
theorem cellsPorts : Tryz.prog.cellsOf 27 = 1 := by kernel_rfl
theorem cellsGraph : Tryz.prog.cellsOf 29 = 2 := by kernel_rfl
section
variable {H : Type} {enc : TypeId × Value → H} {w : World} {cs : List Value} {v : Value} {base : Nat} {d : DataW H} {ps : List MemPlace}
theorem rd_link (h : Rd enc Tryz.prog w 50 cs) : ∃ t : Lk, cs = [.int .i64 t.1, .int .i64 t.2] ∧ LinkIn t := by
  obtain ⟨h1, h2⟩ := rd_struct Tryz.underlying50 h
  rw [cellsLink] at h1
  match cs, h1 with
  | [a, b], _ =>
    have g0 := h2 0 _ rfl
    have g1 := h2 1 _ rfl
    simp [gcellsInt] at g0 g1
    obtain ⟨x, hx, hx'⟩ := rd_int64 Tryz.underlying3 g0
    obtain ⟨y, hy, hy'⟩ := rd_int64 Tryz.underlying3 g1
    simp at hx hy
    exact ⟨(x, y), by simp [hx, hy], hx', hy'⟩
theorem rd_links (h : Rd enc Tryz.prog w 51 cs) : ∃ l, LinksOk w cs l ∧ ∀ t ∈ l, LinkIn t := by
  obtain ⟨v, l, h1, h2⟩ := open_seq (R := fun cs (t : Lk) => cs = [.int .i64 t.1, .int .i64 t.2] ∧ LinkIn t) Tryz.underlying51 cellsLink (Nat.succ_pos 1) (fun cs h => rd_link h) h
  refine ⟨l, ⟨v, h1, seq_flat (fun t : Lk => [.int .i64 t.1, .int .i64 t.2]) (fun _ => rfl) (by omega) h2 (fun cs x h => h.1)⟩, fun x hx => ?_⟩
  obtain ⟨xs, _, h3⟩ := h2
  obtain ⟨i, hi⟩ := List.getElem?_of_mem hx
  exact (h3 i x hi).2
theorem rd_ints (h : Rd enc Tryz.prog w 26 cs) : ∃ v l, cs = [v] ∧ Ints .i64 w v l ∧ ∀ x ∈ l, In64 x := by
  obtain ⟨v, l, h1, hl⟩ := open_seq (R := fun cs x => cs = [.int .i64 x] ∧ In64 x) Tryz.underlying26 gcellsInt Nat.one_pos (fun cs h => by obtain ⟨n, h1, h2⟩ := rd_int64 Tryz.underlying3 h; exact ⟨n, h1, h2⟩) h
  refine ⟨v, l, h1, ?_, fun x hx => ?_⟩
  · have := seq_flat (fun x => [.int .i64 x]) (fun _ => rfl) Nat.one_pos hl (fun cs x h => h.1)
    unfold Ints
    rwa [flat_one l] at this
  · obtain ⟨xs, _, h2⟩ := hl
    obtain ⟨i, hi⟩ := List.getElem?_of_mem hx
    exact (h2 i x hi).2
theorem rd_ports (h : Rd enc Tryz.prog w 27 cs) : ∃ v l, cs = [v] ∧ PortsOk w v l ∧ ∀ x ∈ l, ∀ t ∈ x, LinkIn t := by
  obtain ⟨v, l, h1, h2⟩ := open_seq (R := fun cs l => LinksOk w cs l ∧ ∀ t ∈ l, LinkIn t) Tryz.underlying27 cellsLinks Nat.one_pos (fun cs h => rd_links h) h
  refine ⟨v, l, h1, h2.imp fun _ _ _ h => h.1, fun x hx => ?_⟩
  obtain ⟨xs, _, h3⟩ := h2
  obtain ⟨i, hi⟩ := List.getElem?_of_mem hx
  exact (h3 i x hi).2
theorem open_graph (hv : Value.okWide Tryz.prog w .any base 29 v) (h : DataW.Trod enc Tryz.prog w 0 (fun _ => true) true 29 v d ps) : ∃ g, GraphOk w v g ∧ GraphIn g := by
  obtain ⟨cs, rfl, hcs⟩ : ∃ cs, v = .agg cs ∧ cs.size = Tryz.prog.cellsOf 29 := by
    unfold Value.okWide at hv
    rw [Tryz.underlying29] at hv
    obtain ⟨cs, h1, h2, _⟩ := hv
    exact ⟨cs, h1, h2⟩
  have hr := rd_of h
  simp only [Value.cells] at hr
  obtain ⟨h1, h2⟩ := rd_struct Tryz.underlying29 hr
  rw [cellsGraph] at h1
  obtain ⟨cs⟩ := cs
  simp only at h1 h2
  match cs, h1 with
  | [a, b], _ =>
    have g0 := h2 0 _ rfl
    have g1 := h2 1 _ rfl
    simp [cellsInts, cellsPorts] at g0 g1
    obtain ⟨iv, l, e2, q2, q3⟩ := rd_ints g0
    obtain ⟨pv, rr, e3, q4, q5⟩ := rd_ports g1
    simp at e2 e3
    exact ⟨⟨l, rr⟩, ⟨iv, pv, by simp [e2, e3], q2, q4⟩, q3, q5⟩
end
end Go.Proofs.YtenajilnjeafpaaGreat
set_option linter.unusedVariables false
namespace Go.Proofs.YtenajilnjeafpaaGreat
open Go.RowKit

theorem links_rel {w : World} {lv : Live} {v : Value} {l : List Lk} (h : Pairs w v l) : Rel (okW w) w lv (encLinks l) v :=
  rel_plain (g := fun t : Lk => [.int .i64 t.1, .int .i64 t.2]) (fun _ => rfl) (fun x u hu => by simp at hu; rcases hu with rfl | rfl <;> rfl) h
theorem graph_rel {w : World} {lv : Live} {v : Value} {g : GraphD} (h : GraphOk w v g) : Rel (okW w) w lv (encG g) v := by
  obtain ⟨iv, pv, rfl, h1, h2⟩ := h
  have h3 : RelAll (okW w) w lv [encInts g.ids, encPorts g.ports] [iv, pv] := by
    refine relAll_cons (ints_rel h1) (relAll_cons ?_ relAll_nil)
    refine rel_of_seq h2 (fun _ => rfl) (fun x c hc => by simp at hc; subst hc; rfl) fun x _ cs hc => ?_
    obtain ⟨lv', rfl, r1⟩ := hc
    exact relAll_cons (links_rel r1) relAll_nil
  exact .agg _ h3.1 (fun c hc => by simp at hc; rcases hc with rfl | rfl <;> rfl) h3.2
end Go.Proofs.YtenajilnjeafpaaGreat
set_option linter.unusedVariables false
namespace Go.Proofs.YtenajilnjeafpaaGreat
open Go.RowKit

theorem terms_rel {w : World} {lv : Live} {v : Value} {l : List Tm} (h : Terms w v l) : Rel (okW w) w lv (encTerms l) v :=
  rel_plain (g := fun t : Tm => [.int .i64 t.1, .int .i64 t.2]) (fun _ => rfl) (fun x u hu => by simp at hu; rcases hu with rfl | rfl <;> rfl) h
theorem vars_rel {w : World} {lv : Live} {v : Value} {l : List VarD} (h : VarsOk w v l) : Rel (okW w) w lv (.sl 6 (l.map encVar)) v :=
  rel_plain (g := varCells) (fun _ => rfl) (fun x u hu => by simp [varCells] at hu; rcases hu with rfl | rfl | rfl | rfl | rfl | rfl <;> rfl) h
theorem prog_rel {w : World} {lv : Live} {v : Value} {p : ProgD} (h : ProgOk w v p) : Rel (okW w) w lv (encP p) v := by
  obtain ⟨vv, rv, rfl, h1, h2⟩ := h
  have h3 : RelAll (okW w) w lv [strA p.name, .sl 6 (p.vars.map encVar), .sl 3 (p.rules.map encRule)] [.string p.name, vv, rv] := by
    refine relAll_cons (.v _) (relAll_cons (vars_rel h1) (relAll_cons ?_ relAll_nil))
    refine rel_of_seq h2 (fun _ => rfl) (fun x c hc => by simp [encRule] at hc; rcases hc with rfl | rfl | rfl <;> rfl) fun x _ cs hc => ?_
    obtain ⟨gv, sv, rfl, q1, q2⟩ := hc
    refine relAll_cons (.v _) (relAll_cons (terms_rel q1) (relAll_cons ?_ relAll_nil))
    refine rel_of_seq q2 (fun _ => rfl) (fun x c hc => by simp [encSet] at hc; rcases hc with rfl | rfl <;> rfl) fun x _ cs hc => ?_
    obtain ⟨tv, rfl, r1⟩ := hc
    exact relAll_cons (.v _) (relAll_cons (terms_rel r1) relAll_nil)
  exact .agg _ h3.1 (fun c hc => by simp at hc; rcases hc with rfl | rfl | rfl <;> rfl) h3.2
end Go.Proofs.YtenajilnjeafpaaGreat
set_option linter.unusedVariables false
set_option maxRecDepth 100000
namespace Go.Proofs.YtenajilnjeafpaaGreat
open Go.ChangeShapes Go.WideShapes Go.RowKit
def RowOk (w : World) (cs : List Value) (l : List Int) : Prop := ∃ u, cs = [u] ∧ Ints .i64 w u l
def CfgOk (w : World) (v : Value) (c : List (List Int)) : Prop := Seq (RowOk w) 1 w v c
def FaultsOk (w : World) (v : Value) (l : List FaultD) : Prop := Row w v 3 l.length (l.flatMap fun f => [.int .i64 f.node, .int .i64 f.var, .int .i64 f.value])
theorem cfg_rel {w : World} {lv : Live} {v : Value} {c : List (List Int)} (h : CfgOk w v c) : Rel (okW w) w lv (encC c) v := by
  refine rel_of_seq h (fun _ => rfl) (fun x c hc => by simp at hc; subst hc; rfl) fun x _ cs hc => ?_
  obtain ⟨u, rfl, r1⟩ := hc
  exact relAll_cons (ints_rel r1) relAll_nil
theorem faults_rel {w : World} {lv : Live} {v : Value} {l : List FaultD} (h : FaultsOk w v l) : Rel (okW w) w lv (encFaults l) v :=
  rel_plain (g := fun f : FaultD => [.int .i64 f.node, .int .i64 f.var, .int .i64 f.value]) (fun _ => rfl) (fun x u hu => by simp at hu; rcases hu with rfl | rfl | rfl <;> rfl) h
section
variable {H : Type} {enc : TypeId × Value → H} {w : World} {cs : List Value} {v : Value} {base : Nat} {d : DataW H} {ps : List MemPlace}
theorem open_config (hv : Value.okWide Tryz.prog w .any base 30 v) (h : DataW.Trod enc Tryz.prog w 0 (fun _ => true) true 30 v d ps) : ∃ c, CfgOk w v c := by
  obtain ⟨l, hl⟩ := open_seq_arg (R := RowOk w) Tryz.underlying30 cellsInts Nat.one_pos (fun cs h => by obtain ⟨u, l, h1, h2, _⟩ := rd_ints h; exact ⟨l, u, h1, h2⟩) hv h
  exact ⟨l, hl⟩
theorem cellsFault : Tryz.prog.cellsOf 61 = 3 := by kernel_rfl
theorem rd_fault (h : Rd enc Tryz.prog w 61 cs) : ∃ f : FaultD, cs = [.int .i64 f.node, .int .i64 f.var, .int .i64 f.value] := by
  obtain ⟨h1, h2⟩ := rd_struct Tryz.underlying61 h
  rw [cellsFault] at h1
  match cs, h1 with
  | [a, b, c], _ =>
    have g0 := h2 0 _ rfl
    have g1 := h2 1 _ rfl
    have g2 := h2 2 _ rfl
    simp [gcellsInt] at g0 g1 g2
    obtain ⟨x, hx, _⟩ := rd_int64 Tryz.underlying3 g0
    obtain ⟨y, hy, _⟩ := rd_int64 Tryz.underlying3 g1
    obtain ⟨z, hz, _⟩ := rd_int64 Tryz.underlying3 g2
    simp at hx hy hz
    exact ⟨⟨x, y, z⟩, by simp [hx, hy, hz]⟩
theorem open_faults (hv : Value.okWide Tryz.prog w .any base 53 v) (h : DataW.Trod enc Tryz.prog w 0 (fun _ => true) true 53 v d ps) : ∃ l, FaultsOk w v l := by
  obtain ⟨l, hl⟩ := open_seq_arg (R := fun cs (f : FaultD) => cs = [.int .i64 f.node, .int .i64 f.var, .int .i64 f.value]) Tryz.underlying53 cellsFault (Nat.succ_pos 2) (fun cs h => rd_fault h) hv h
  exact ⟨l, seq_flat (fun f : FaultD => [.int .i64 f.node, .int .i64 f.var, .int .i64 f.value]) (fun _ => rfl) (by omega) hl (fun cs x h => h)⟩
end
end Go.Proofs.YtenajilnjeafpaaGreat
