/- Programs, graphs and configurations as abstract values; how they stand to what the elder texts say of memory. -/
import Derived.Test.YtogennegbihceaaSymQ
import Derived.Test.YtogennegbihceaaDataP
import Derived.Test.YtogennegbihceaaGraph
set_option linter.unusedVariables false
set_option maxRecDepth 100000
namespace Go.Proofs.Ytogennegbihceaa
open Go.RowKit

def encInts (l : List Int) : AV := .sl 1 (l.map fun z => [i64 z])
def encTerm (t : Tm) : List AV := [i64 t.1, i64 t.2]
def encTerms (l : List Tm) : AV := .sl 2 (l.map encTerm)
def encSet (s : SetD) : List AV := [i64 s.var, encTerms s.val]
def encRule (r : RuleD) : List AV := [strA r.name, encTerms r.guard, .sl 2 (r.sets.map encSet)]
def encVar (x : VarD) : List AV := [strA x.name, i64 x.kind, i64 x.lo, i64 x.hi, i64 x.perNode, i64 x.perID]
def encP (p : ProgD) : AV := .agg [strA p.name, .sl 6 (p.vars.map encVar), .sl 3 (p.rules.map encRule)]
def encLink (l : Lk) : List AV := [i64 l.1, i64 l.2]
def encLinks (l : List Lk) : AV := .sl 2 (l.map encLink)
def encPorts (l : List (List Lk)) : AV := .sl 1 (l.map fun x => [encLinks x])
def encG (g : GraphD) : AV := .agg [encInts g.ids, encPorts g.ports]
def encC (c : List (List Int)) : AV := .sl 1 (c.map fun x => [encInts x])
structure FaultD where
  node : Int
  var : Int
  value : Int
def encFault (f : FaultD) : List AV := [i64 f.node, i64 f.var, i64 f.value]
def encFaults (l : List FaultD) : AV := .sl 3 (l.map encFault)

/-- All of memory may be read. -/
def okW (w : World) (g : Nat) : Prop := g < w.heap.size
def none0 : Live := fun _ => none

theorem seq_of_rel {α : Type} {f : α → List AV} {R : List Value → α → Prop} {ok : Nat → Prop} {w : World} {lv : Live} {size : Nat} {l : List α} {v : Value} (h : Rel ok w lv (.sl size (l.map f)) v) (hok : ∀ g, ok g → g < w.heap.size)
    (hR : ∀ x ∈ l, ∀ cs, RelAll ok w (fun _ => none) (f x) cs → R cs x) : Seq R size w v l := by
  cases h with
  | sl a cap u g o hn hc ha hsz hg hcell hrel =>
    simp only [List.length_map] at hn ⊢
    have hfl : ∀ x ∈ l, (f x).length = size := fun x hx => hsz _ (List.mem_map_of_mem hx)
    refine ⟨(List.range (l.length * size)).map fun j => u (j / size) (j % size), ⟨a, cap, rfl, hn, hc, by simp, ha, ?_⟩, fun i x hx => ?_⟩
    · rcases Nat.eq_zero_or_pos l.length with h0 | h0
      · exact .inl h0
      · obtain ⟨rfl, hok'⟩ := hg (by intro h; simp at h; simp [h] at h0)
        refine .inr ⟨g, o, rfl, hok g hok', fun j v hj => ?_⟩
        have hlt := (List.getElem?_eq_some_iff.1 hj).1
        simp only [List.length_map, List.length_range] at hlt
        rw [List.getElem?_map, List.getElem?_range hlt] at hj
        simp only [Option.map_some, Option.some.injEq] at hj
        have hs0 : 0 < size := by
          rcases Nat.eq_zero_or_pos size with h | h
          · simp [h] at hlt
          · exact h
        have hi : j / size < l.length := by rw [Nat.div_lt_iff_lt_mul hs0]; exact hlt
        have hx := List.getElem?_eq_getElem hi
        have hm : j % size < (f l[j / size]).length := by rw [hfl _ (List.getElem_mem hi)]; exact Nat.mod_lt _ hs0
        have := (hcell (j / size) (j % size) (f l[j / size]) _ (by simp [hx]) (List.getElem?_eq_getElem hm)).1
        rw [← hj, ← this]
        congr 2
        rw [Nat.add_assoc, Nat.mul_comm, Nat.div_add_mod]
    · refine hR x (List.mem_of_getElem? hx) _ ⟨?_, fun j c v hc hv => ?_⟩
      · have hi := (List.getElem?_eq_some_iff.1 hx).1
        rw [hfl x (List.mem_of_getElem? hx), List.length_take, List.length_drop, List.length_map, List.length_range]
        have : i * size + size ≤ l.length * size := by rw [← Nat.succ_mul]; exact Nat.mul_le_mul_right _ hi
        omega
      · have hj : j < size := by have := (List.getElem?_eq_some_iff.1 hc).1; rw [hfl x (List.mem_of_getElem? hx)] at this; exact this
        have hi := (List.getElem?_eq_some_iff.1 hx).1
        have hlt : i * size + j < l.length * size := by
          have : i * size + size ≤ l.length * size := by rw [← Nat.succ_mul]; exact Nat.mul_le_mul_right _ hi
          omega
        rw [List.getElem?_take, if_pos hj, List.getElem?_drop, List.getElem?_map, List.getElem?_range hlt] at hv
        simp only [Option.map_some, Option.some.injEq] at hv
        have e1 : (i * size + j) / size = i := by rw [Nat.add_comm, Nat.add_mul_div_right _ _ (by omega), Nat.div_eq_of_lt hj, Nat.zero_add]
        have e2 : (i * size + j) % size = j := by rw [Nat.add_comm, Nat.add_mul_mod_self_right, Nat.mod_eq_of_lt hj]
        rw [e1, e2] at hv
        subst hv
        exact hrel i j (f x) c (by simp [hx]) hc
theorem rel_of_seq {α : Type} {f : α → List AV} {R : List Value → α → Prop} {w : World} {lv : Live} {size : Nat} {l : List α} {v : Value} (h : Seq R size w v l) (hf : ∀ x, (f x).length = size) (hfc : ∀ x, ∀ c ∈ f x, cellA c = true)
    (hR : ∀ x ∈ l, ∀ cs, R cs x → RelAll (okW w) w (fun _ => none) (f x) cs) : Rel (okW w) w lv (.sl size (l.map f)) v := by
  obtain ⟨xs, ⟨a, cap, rfl, h1, h2, h3, h4, h5⟩, h6⟩ := h
  have hget : ∀ (i j : Nat) (row : List AV) (c : AV), (l.map f)[i]? = some row → row[j]? = some c → ∃ x, l[i]? = some x ∧ row = f x ∧ ∃ u, xs[i * size + j]? = some u ∧ Rel (okW w) w (fun _ => none) c u := by
    intro i j row c hrow hc
    rw [List.getElem?_map] at hrow
    cases hx : l[i]? with
    | none => simp [hx] at hrow
    | some x =>
      simp only [hx, Option.map_some, Option.some.injEq] at hrow
      subst hrow
      have hj : j < size := by have := (List.getElem?_eq_some_iff.1 hc).1; rw [hf] at this; exact this
      have hi := (List.getElem?_eq_some_iff.1 hx).1
      have hlt : i * size + j < xs.length := by
        have : i * size + size ≤ l.length * size := by rw [← Nat.succ_mul]; exact Nat.mul_le_mul_right _ hi
        omega
      refine ⟨x, rfl, rfl, xs[i * size + j], List.getElem?_eq_getElem hlt, ?_⟩
      refine (hR x (List.mem_of_getElem? hx) _ (h6 i x hx)).2 j c _ hc ?_
      rw [List.getElem?_take, if_pos hj, List.getElem?_drop, List.getElem?_eq_getElem hlt]
  have hgo : ∃ g o, l ≠ [] → a = some ⟨g, o, none⟩ ∧ g < w.heap.size ∧ ∀ (j : Nat) (u : Value), xs[j]? = some u → w.cell? ⟨g, o + j, none⟩ = some u := by
    rcases h5 with h5 | ⟨g, o, q1, q2, q3⟩
    · exact ⟨0, 0, fun h => absurd (List.eq_nil_of_length_eq_zero h5) h⟩
    · exact ⟨g, o, fun _ => ⟨q1, q2, q3⟩⟩
  obtain ⟨g, o, hgo⟩ := hgo
  have := Rel.sl (ok := okW w) (w := w) (lv := lv) (size := size) (rows := l.map f) a cap (fun i j => xs.getD (i * size + j) undef) g o (by simpa using h1) h2 h4 (fun row hr => by obtain ⟨x, _, rfl⟩ := List.mem_map.1 hr; exact hf x)
    (fun hne => by have := hgo (by intro h; simp [h] at hne); exact ⟨this.1, this.2.1⟩) (fun i j row c hrow hc => by
      obtain ⟨x, hx, rfl, u, hu, hr⟩ := hget i j row c hrow hc
      have hne : l ≠ [] := by intro h; simp [h] at hx
      refine ⟨?_, hfc x c (List.mem_of_getElem? hc)⟩
      rw [Nat.add_assoc, (hgo hne).2.2 _ u hu]
      simp [hu]) (fun i j row c hrow hc => by
      obtain ⟨x, hx, rfl, u, hu, hr⟩ := hget i j row c hrow hc
      have : xs.getD (i * size + j) undef = u := by simp [hu]
      rw [this]; exact hr)
  simpa using this
theorem relAll1 {ok : Nat → Prop} {w : World} {lv : Live} {a : AV} {cs : List Value} (h : RelAll ok w lv [a] cs) : ∃ u, cs = [u] ∧ Rel ok w lv a u := by
  match cs, h with
  | [u], h => exact ⟨u, rfl, h.2 0 _ _ rfl rfl⟩
theorem relAll2 {ok : Nat → Prop} {w : World} {lv : Live} {a b : AV} {cs : List Value} (h : RelAll ok w lv [a, b] cs) : ∃ u v, cs = [u, v] ∧ Rel ok w lv a u ∧ Rel ok w lv b v := by
  match cs, h with
  | [u, v], h => exact ⟨u, v, rfl, h.2 0 _ _ rfl rfl, h.2 1 _ _ rfl rfl⟩
theorem relAll3 {ok : Nat → Prop} {w : World} {lv : Live} {a b c : AV} {cs : List Value} (h : RelAll ok w lv [a, b, c] cs) : ∃ u v x, cs = [u, v, x] ∧ Rel ok w lv a u ∧ Rel ok w lv b v ∧ Rel ok w lv c x := by
  match cs, h with
  | [u, v, x], h => exact ⟨u, v, x, rfl, h.2 0 _ _ rfl rfl, h.2 1 _ _ rfl rfl, h.2 2 _ _ rfl rfl⟩
theorem rowFlat {α : Type} {g : α → List Value} {size : Nat} {w : World} {v : Value} {l : List α} (hg : ∀ x, (g x).length = size) (h0 : 0 < size) (h : Seq (fun cs x => cs = g x) size w v l) : Row w v size l.length (l.flatMap g) := seq_flat g hg h0 h fun cs x h => h

theorem terms_of_rel {ok : Nat → Prop} {w : World} {lv : Live} {l : List Tm} {v : Value} (h : Rel ok w lv (encTerms l) v) (hok : ∀ g, ok g → g < w.heap.size) : Terms w v l :=
  rowFlat (g := fun t : Tm => [.int .i64 t.1, .int .i64 t.2]) (fun _ => rfl) (by omega) (seq_of_rel h hok fun x _ cs hr => by
    obtain ⟨u, v, rfl, h1, h2⟩ := relAll2 hr
    rw [rel_v h1, rel_v h2])
theorem ints_of_rel {ok : Nat → Prop} {w : World} {lv : Live} {l : List Int} {v : Value} (h : Rel ok w lv (encInts l) v) (hok : ∀ g, ok g → g < w.heap.size) : Ints .i64 w v l := by
  have := rowFlat (g := fun t : Int => [.int .i64 t]) (size := 1) (fun _ => rfl) (by omega) (seq_of_rel h hok fun x _ cs hr => by
    obtain ⟨u, rfl, h1⟩ := relAll1 hr
    rw [rel_v h1])
  unfold Ints
  rwa [flat_one l] at this
theorem prog_of_rel {ok : Nat → Prop} {w : World} {lv : Live} {p : ProgD} {v : Value} (h : Rel ok w lv (encP p) v) (hok : ∀ g, ok g → g < w.heap.size) : ProgOk w v p := by
  cases h with
  | agg vs hl hc hr =>
    obtain ⟨u, vv, rv, rfl, h1, h2, h3⟩ := relAll3 ⟨hl, hr⟩
    rw [rel_v h1]
    refine ⟨vv, rv, rfl, ?_, ?_⟩
    · exact rowFlat (fun _ => rfl) (by omega) (seq_of_rel h2 hok fun x _ cs hr => by
        match cs, hr with
        | [c0, c1, c2, c3, c4, c5], hr =>
          have e0 := rel_v (hr.2 0 _ _ rfl rfl)
          have e1 := rel_v (hr.2 1 _ _ rfl rfl)
          have e2 := rel_v (hr.2 2 _ _ rfl rfl)
          have e3 := rel_v (hr.2 3 _ _ rfl rfl)
          have e4 := rel_v (hr.2 4 _ _ rfl rfl)
          have e5 := rel_v (hr.2 5 _ _ rfl rfl)
          rw [e0, e1, e2, e3, e4, e5]; rfl)
    · exact seq_of_rel h3 hok fun x _ cs hr => by
        obtain ⟨u, gv, sv, rfl, q1, q2, q3⟩ := relAll3 hr
        rw [rel_v q1]
        exact ⟨gv, sv, rfl, terms_of_rel q2 hok, seq_of_rel q3 hok fun y _ cs hr => by
          obtain ⟨u, tv, rfl, r1, r2⟩ := relAll2 hr
          rw [rel_v r1]
          exact ⟨tv, rfl, terms_of_rel r2 hok⟩⟩

/-- A contract of the elder kind: a plain value is returned. -/
theorem con_of_calls {P : Program} {f : FuncId} {args : List AV} {x : Value} (hb : HasBody P f) (h : ∀ (w : World) (us : List Value) (ok : Nat → Prop), (∀ g, ok g → g < w.heap.size) → RelAll ok w (fun _ => none) args us → Calls P f us.toArray w fun e w' => e = .returned x ∧ Below w.heap.size w w') : Con P f args (.v x) :=
  ⟨hb, rfl, fun ok0 w us _ hok hr => (h w us ok0 hok hr).mono fun e w' ⟨h1, h2⟩ => ⟨x, h1, .v x, h2⟩⟩
end Go.Proofs.Ytogennegbihceaa
