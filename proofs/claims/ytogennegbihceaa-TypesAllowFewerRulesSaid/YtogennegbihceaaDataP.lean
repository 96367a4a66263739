/- Programs as data in memory: variables, assignments, rules; kept while memory grows; opened from an argument. -/
import Derived.Test.YtogennegbihceaaOpenTerm
set_option linter.unusedVariables false
set_option maxRecDepth 100000
namespace Go.Proofs.Ytogennegbihceaa
open Go.ChangeShapes Go.WideShapes Go.RowKit

structure VarD where
  name : ByteArray
  kind : Int
  lo : Int
  hi : Int
  perNode : Int
  perID : Int
structure SetD where
  var : Int
  val : List Tm
structure RuleD where
  name : ByteArray
  guard : List Tm
  sets : List SetD
structure ProgD where
  name : ByteArray
  vars : List VarD
  rules : List RuleD

def varCells (x : VarD) : List Value := [.string x.name, .int .i64 x.kind, .int .i64 x.lo, .int .i64 x.hi, .int .i64 x.perNode, .int .i64 x.perID]
def SetOk (w : World) (cs : List Value) (s : SetD) : Prop := ∃ v, cs = [.int .i64 s.var, v] ∧ Terms w v s.val
def RuleOk (w : World) (cs : List Value) (r : RuleD) : Prop := ∃ gv sv, cs = [.string r.name, gv, sv] ∧ Terms w gv r.guard ∧ Seq (SetOk w) 2 w sv r.sets
def VarsOk (w : World) (v : Value) (l : List VarD) : Prop := Row w v 6 l.length (l.flatMap varCells)
def RulesOk (w : World) (v : Value) (l : List RuleD) : Prop := Seq (RuleOk w) 3 w v l
def ProgOk (w : World) (v : Value) (p : ProgD) : Prop := ∃ vv rv, v = .agg #[.string p.name, vv, rv] ∧ VarsOk w vv p.vars ∧ RulesOk w rv p.rules

def VarIn (x : VarD) : Prop := x.name.size ≤ 9223372036854775807 ∧ In64 x.kind ∧ In64 x.lo ∧ In64 x.hi ∧ In64 x.perNode ∧ In64 x.perID
def SetIn (s : SetD) : Prop := In64 s.var ∧ ∀ t ∈ s.val, TermIn t
def RuleIn (r : RuleD) : Prop := r.name.size ≤ 9223372036854775807 ∧ (∀ t ∈ r.guard, TermIn t) ∧ ∀ s ∈ r.sets, SetIn s
def ProgIn (p : ProgD) : Prop := p.name.size ≤ 9223372036854775807 ∧ (∀ x ∈ p.vars, VarIn x) ∧ ∀ r ∈ p.rules, RuleIn r

theorem SetOk.below {w w' : World} {cs : List Value} {s : SetD} (hb : Below w.heap.size w w') (h : SetOk w cs s) : SetOk w' cs s := by
  obtain ⟨v, h1, h2⟩ := h
  exact ⟨v, h1, h2.below hb⟩
theorem RuleOk.below {w w' : World} {cs : List Value} {r : RuleD} (hb : Below w.heap.size w w') (h : RuleOk w cs r) : RuleOk w' cs r := by
  obtain ⟨gv, sv, h1, h2, h3⟩ := h
  exact ⟨gv, sv, h1, h2.below hb, h3.below hb fun _ _ => SetOk.below hb⟩
theorem VarsOk.below {w w' : World} {v : Value} {l : List VarD} (h : VarsOk w v l) (hb : Below w.heap.size w w') : VarsOk w' v l := Row.below h hb
theorem RulesOk.below {w w' : World} {v : Value} {l : List RuleD} (h : RulesOk w v l) (hb : Below w.heap.size w w') : RulesOk w' v l := Seq.below h hb fun _ _ => RuleOk.below hb
theorem ProgOk.below {w w' : World} {v : Value} {p : ProgD} (h : ProgOk w v p) (hb : Below w.heap.size w w') : ProgOk w' v p := by
  obtain ⟨vv, rv, h1, h2, h3⟩ := h
  exact ⟨vv, rv, h1, h2.below hb, h3.below hb⟩

/-- A slice of elements, opened for a walk. -/
theorem Seq.open {α : Type} {R : List Value → α → Prop} {size : Nat} {w : World} {v : Value} {l : List α} (h : Seq R size w v l) : ∃ a cap, v = .slice a l.length cap ∧ l.length ≤ cap ∧ cap ≤ 9223372036854775807 ∧
    (0 < l.length → ∃ g o, a = some ⟨g, o, none⟩ ∧ g < w.heap.size ∧ ∀ i x, l[i]? = some x → ∃ cs, cs.length = size ∧ R cs x ∧ ∀ j u, cs[j]? = some u → w.cell? ⟨g, o + i * size + j, none⟩ = some u) := by
  obtain ⟨xs, h1, h2⟩ := h
  have hlen : xs.length = l.length * size := by obtain ⟨_, _, _, _, _, h, _⟩ := h1; exact h
  obtain ⟨a, cap, hv, h3, h4, _, h5⟩ := Row.open h1
  refine ⟨a, cap, hv, h3, h4, fun hn => ?_⟩
  obtain ⟨g, o, ha, hg, hc⟩ := h5 hn
  refine ⟨g, o, ha, hg, fun i x hx => ⟨_, ?_, h2 i x hx, fun j u hu => ?_⟩⟩
  · have hi := (List.getElem?_eq_some_iff.1 hx).1
    rw [List.length_take, List.length_drop, hlen]
    have : i * size + size ≤ l.length * size := by rw [← Nat.succ_mul]; exact Nat.mul_le_mul_right _ hi
    omega
  · rw [List.getElem?_take] at hu
    split at hu
    · rw [List.getElem?_drop] at hu
      have := hc _ u hu
      rw [← Nat.add_assoc] at this
      exact this
    · cases hu
theorem VarsOk.open {w : World} {v : Value} {l : List VarD} (h : VarsOk w v l) : ∃ a cap, v = .slice a l.length cap ∧ l.length ≤ cap ∧ cap ≤ 9223372036854775807 ∧
    (0 < l.length → ∃ g o, a = some ⟨g, o, none⟩ ∧ g < w.heap.size ∧ ∀ i x, l[i]? = some x → w.cell? ⟨g, o + i * 6, none⟩ = some (.string x.name) ∧ w.cell? ⟨g, o + i * 6 + 1, none⟩ = some (.int .i64 x.kind) ∧ w.cell? ⟨g, o + i * 6 + 2, none⟩ = some (.int .i64 x.lo) ∧
      w.cell? ⟨g, o + i * 6 + 3, none⟩ = some (.int .i64 x.hi) ∧ w.cell? ⟨g, o + i * 6 + 4, none⟩ = some (.int .i64 x.perNode) ∧ w.cell? ⟨g, o + i * 6 + 5, none⟩ = some (.int .i64 x.perID)) := by
  obtain ⟨a, cap, hv, h3, h4, _, h5⟩ := Row.open h
  refine ⟨a, cap, hv, h3, h4, fun hn => ?_⟩
  obtain ⟨g, o, ha, hg, hc⟩ := h5 hn
  refine ⟨g, o, ha, hg, fun i x hx => ?_⟩
  have h0 := fun j u hu => flat_get varCells 6 (fun _ => rfl) l i j x u hx hu
  exact ⟨hc _ _ (h0 0 _ rfl), hc _ _ (h0 1 _ rfl), hc _ _ (h0 2 _ rfl), hc _ _ (h0 3 _ rfl), hc _ _ (h0 4 _ rfl), hc _ _ (h0 5 _ rfl)⟩
theorem RulesOk.open {w : World} {v : Value} {l : List RuleD} (h : RulesOk w v l) : ∃ a cap, v = .slice a l.length cap ∧ l.length ≤ cap ∧ cap ≤ 9223372036854775807 ∧
    (0 < l.length → ∃ g o, a = some ⟨g, o, none⟩ ∧ g < w.heap.size ∧ ∀ i r, l[i]? = some r → ∃ gv sv, Terms w gv r.guard ∧ Seq (SetOk w) 2 w sv r.sets ∧ w.cell? ⟨g, o + i * 3, none⟩ = some (.string r.name) ∧ w.cell? ⟨g, o + i * 3 + 1, none⟩ = some gv ∧ w.cell? ⟨g, o + i * 3 + 2, none⟩ = some sv) := by
  obtain ⟨a, cap, hv, h3, h4, h5⟩ := Seq.open h
  refine ⟨a, cap, hv, h3, h4, fun hn => ?_⟩
  obtain ⟨g, o, ha, hg, hc⟩ := h5 hn
  refine ⟨g, o, ha, hg, fun i r hr => ?_⟩
  obtain ⟨cs, _, ⟨gv, sv, rfl, q1, q2⟩, q3⟩ := hc i r hr
  exact ⟨gv, sv, q1, q2, q3 0 _ rfl, q3 1 _ rfl, q3 2 _ rfl⟩
theorem sets_open {w : World} {v : Value} {l : List SetD} (h : Seq (SetOk w) 2 w v l) : ∃ a cap, v = .slice a l.length cap ∧ l.length ≤ cap ∧ cap ≤ 9223372036854775807 ∧
    (0 < l.length → ∃ g o, a = some ⟨g, o, none⟩ ∧ g < w.heap.size ∧ ∀ i s, l[i]? = some s → ∃ sv, Terms w sv s.val ∧ w.cell? ⟨g, o + i * 2, none⟩ = some (.int .i64 s.var) ∧ w.cell? ⟨g, o + i * 2 + 1, none⟩ = some sv) := by
  obtain ⟨a, cap, hv, h3, h4, h5⟩ := Seq.open h
  refine ⟨a, cap, hv, h3, h4, fun hn => ?_⟩
  obtain ⟨g, o, ha, hg, hc⟩ := h5 hn
  refine ⟨g, o, ha, hg, fun i s hs => ?_⟩
  obtain ⟨cs, _, ⟨sv, rfl, q1⟩, q3⟩ := hc i s hs
  exact ⟨sv, q1, q3 0 _ rfl, q3 1 _ rfl⟩

theorem cellsVar : Try.prog.cellsOf 35 = 6 := by kernel_rfl
theorem cellsSet : Try.prog.cellsOf 38 = 2 := by kernel_rfl
theorem cellsRule : Try.prog.cellsOf 32 = 3 := by kernel_rfl
theorem cellsProgram : Try.prog.cellsOf 25 = 3 := by kernel_rfl
theorem cellsString : Try.prog.cellsOf 9 = 1 := by kernel_rfl
theorem cellsTerms : Try.prog.cellsOf 29 = 1 := by kernel_rfl
theorem cellsSets : Try.prog.cellsOf 30 = 1 := by kernel_rfl
theorem cellsVars : Try.prog.cellsOf 22 = 1 := by kernel_rfl
theorem cellsRules : Try.prog.cellsOf 23 = 1 := by kernel_rfl
theorem maxLen64 {n : Nat} (h : n ≤ maxLen) : n ≤ 9223372036854775807 := by unfold maxLen at h; omega

section
variable {H : Type} {enc : TypeId × Value → H} {w : World} {cs : List Value} {v : Value} {base : Nat} {d : DataW H} {ps : List MemPlace}
theorem rd_var (h : Rd enc Try.prog w 35 cs) : ∃ x : VarD, cs = varCells x ∧ VarIn x := by
  obtain ⟨h1, h2⟩ := rd_struct Try.underlying35 h
  rw [cellsVar] at h1
  match cs, h1 with
  | [a, b, c, d, e, f], _ =>
    have g0 := h2 0 _ rfl
    have g1 := h2 1 _ rfl
    have g2 := h2 2 _ rfl
    have g3 := h2 3 _ rfl
    have g4 := h2 4 _ rfl
    have g5 := h2 5 _ rfl
    simp [cellsInt, cellsString] at g0 g1 g2 g3 g4 g5
    obtain ⟨s, hs, hs'⟩ := rd_string Try.underlying9 g0
    obtain ⟨x1, e1, q1⟩ := rd_int64 Try.underlying3 g1
    obtain ⟨x2, e2, q2⟩ := rd_int64 Try.underlying3 g2
    obtain ⟨x3, e3, q3⟩ := rd_int64 Try.underlying3 g3
    obtain ⟨x4, e4, q4⟩ := rd_int64 Try.underlying3 g4
    obtain ⟨x5, e5, q5⟩ := rd_int64 Try.underlying3 g5
    simp at hs e1 e2 e3 e4 e5
    exact ⟨⟨s, x1, x2, x3, x4, x5⟩, by simp [varCells, hs, e1, e2, e3, e4, e5], maxLen64 hs', q1, q2, q3, q4, q5⟩
theorem rd_set (h : Rd enc Try.prog w 38 cs) : ∃ s : SetD, SetOk w cs s ∧ SetIn s := by
  obtain ⟨h1, h2⟩ := rd_struct Try.underlying38 h
  rw [cellsSet] at h1
  match cs, h1 with
  | [a, b], _ =>
    have g0 := h2 0 _ rfl
    have g1 := h2 1 _ rfl
    simp [cellsInt, cellsTerms] at g0 g1
    obtain ⟨x1, e1, q1⟩ := rd_int64 Try.underlying3 g0
    obtain ⟨v, l, e2, q2, q3⟩ := rd_terms g1
    simp at e1 e2
    exact ⟨⟨x1, l⟩, ⟨v, by simp [e1, e2], q2⟩, q1, q3⟩
theorem rd_rule (h : Rd enc Try.prog w 32 cs) : ∃ r : RuleD, RuleOk w cs r ∧ RuleIn r := by
  obtain ⟨h1, h2⟩ := rd_struct Try.underlying32 h
  rw [cellsRule] at h1
  match cs, h1 with
  | [a, b, c], _ =>
    have g0 := h2 0 _ rfl
    have g1 := h2 1 _ rfl
    have g2 := h2 2 _ rfl
    simp [cellsString, cellsTerms, cellsSets] at g0 g1 g2
    obtain ⟨s, hs, hs'⟩ := rd_string Try.underlying9 g0
    obtain ⟨gv, l, e2, q2, q3⟩ := rd_terms g1
    obtain ⟨sv, ss, e3, q4⟩ := open_seq (R := fun cs s => SetOk w cs s ∧ SetIn s) Try.underlying30 cellsSet (Nat.succ_pos 1) (fun cs h => rd_set h) g2
    simp at hs e2 e3
    refine ⟨⟨s, l, ss⟩, ⟨gv, sv, by simp [hs, e2, e3], q2, q4.imp fun _ _ _ h => h.1⟩, maxLen64 hs', q3, fun x hx => ?_⟩
    obtain ⟨xs, _, h2⟩ := q4
    obtain ⟨i, hi⟩ := List.getElem?_of_mem hx
    exact (h2 i x hi).2
theorem rd_vars (h : Rd enc Try.prog w 22 cs) : ∃ v l, cs = [v] ∧ VarsOk w v l ∧ ∀ x ∈ l, VarIn x := by
  obtain ⟨v, l, h1, h2⟩ := open_seq (R := fun cs x => cs = varCells x ∧ VarIn x) Try.underlying22 cellsVar (Nat.succ_pos 5) (fun cs h => rd_var h) h
  refine ⟨v, l, h1, seq_flat varCells (fun _ => rfl) (by omega) h2 (fun cs x h => h.1), fun x hx => ?_⟩
  obtain ⟨xs, _, h3⟩ := h2
  obtain ⟨i, hi⟩ := List.getElem?_of_mem hx
  exact (h3 i x hi).2
theorem rd_rules (h : Rd enc Try.prog w 23 cs) : ∃ v l, cs = [v] ∧ RulesOk w v l ∧ ∀ x ∈ l, RuleIn x := by
  obtain ⟨v, l, h1, h2⟩ := open_seq (R := fun cs x => RuleOk w cs x ∧ RuleIn x) Try.underlying23 cellsRule (Nat.succ_pos 2) (fun cs h => rd_rule h) h
  refine ⟨v, l, h1, h2.imp fun _ _ _ h => h.1, fun x hx => ?_⟩
  obtain ⟨xs, _, h3⟩ := h2
  obtain ⟨i, hi⟩ := List.getElem?_of_mem hx
  exact (h3 i x hi).2
theorem open_program (hv : Value.okWide Try.prog w .any base 25 v) (h : DataW.Trod enc Try.prog w 0 (fun _ => true) true 25 v d ps) : ∃ p, ProgOk w v p ∧ ProgIn p := by
  obtain ⟨cs, rfl, hcs⟩ : ∃ cs, v = .agg cs ∧ cs.size = Try.prog.cellsOf 25 := by
    unfold Value.okWide at hv
    rw [Try.underlying25] at hv
    obtain ⟨cs, h1, h2, _⟩ := hv
    exact ⟨cs, h1, h2⟩
  have hr := rd_of h
  simp only [Value.cells] at hr
  obtain ⟨h1, h2⟩ := rd_struct Try.underlying25 hr
  rw [cellsProgram] at h1
  obtain ⟨cs⟩ := cs
  simp only at h1 h2
  match cs, h1 with
  | [a, b, c], _ =>
    have g0 := h2 0 _ rfl
    have g1 := h2 1 _ rfl
    have g2 := h2 2 _ rfl
    simp [cellsString, cellsVars, cellsRules] at g0 g1 g2
    obtain ⟨s, hs, hs'⟩ := rd_string Try.underlying9 g0
    obtain ⟨vv, l, e2, q2, q3⟩ := rd_vars g1
    obtain ⟨rv, rr, e3, q4, q5⟩ := rd_rules g2
    simp at hs e2 e3
    exact ⟨⟨s, l, rr⟩, ⟨vv, rv, by simp [hs, e2, e3], q2, q4⟩, maxLen64 hs', q3, q5⟩
end
end Go.Proofs.Ytogennegbihceaa
