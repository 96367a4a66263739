/- Rows that a call makes: appended to out of a slice that is read; copied. No program. -/
import Derived.Test.YtogennegbihceaaRow
import Derived.Laws.AppendOwn
import Derived.Laws.AppendOwnNone
import Derived.Laws.OwnMore
import Derived.OwnWalk
set_option linter.unusedVariables false
set_option maxRecDepth 100000
namespace Go.Proofs.Ytogennegbihceaa
open Go.RowKit

/-- 'append(out, src...)': out is the call's own row or nil; src is any slice that is read, nil included. -/
theorem wpList_append_row {P : Program} (w : World) {ops : Array Oper} {rest : List Oper} {o : Oper} {a : Act} {Q : Exit → Act → World → Prop} (hgd : o.guard = none) (s x : Operand) (t : TypeId)
    (ho : o.op = .call { callee := .builtin .append, args := #[s, x], argTypes := #[t, t] })
    (base : Nat) (e : TypeId) (i : TypeInfo) (z : Value) (size bytes : Nat) (ht : P.underlying t = some (.slice e)) (hi : P.info? e = some i) (hz : i.zero = some z)
    (hsize : i.size = size) (hby : i.bytes = bytes) (hzs : z.cells.size = size) (hsz : 0 < size)
    (v : Value) (n : Nat) (xs : List Value) (hs : a.eval s = v) (hown : w.ownsRow base e size v n xs)
    (sv : Value) (m : Nat) (news : List Value) (hx : a.eval x = sv) (hrow : Row w sv size m news) (h1 : ∀ u ∈ news, u.oneCell' = true)
    (h63 : n + m ≤ maxLen) (hbytes : (n + m) * bytes ≤ 140737488355328) (hbase : base ≤ w.heap.size)
    (h : ∀ v' w', w'.ownsRow base e size v' (n + m) (xs ++ news) → w.grownBy w' v.ownBlock → wpList P ops Q rest (a.put o.dst v') w') : wpList P ops Q (o :: rest) a w := by
  obtain ⟨ao, cap, rfl, h2, h3, h4, h5, h6⟩ := hrow
  cases ao with
  | none =>
    have hc := h5 rfl
    subst hc
    have hm : m = 0 := by omega
    subst hm
    have hn : news = [] := List.length_eq_zero_iff.1 (by simpa using h4)
    subst hn
    refine wpList_append_own_none hgd s x t ho base e i size ht hi v n xs hs hown hx (h v w ?_ ⟨rfl, rfl, rfl, Nat.le_refl _, fun _ _ _ => rfl⟩)
    simpa using hown
  | some ad =>
    refine wpList_append_own w hgd s x t ho base e i z size bytes ht hi hz hsize hby hzs hsz v n xs hs hown ad m cap news hx h4 ?_ h1 h63 hbytes hbase (fun v' w' h7 h8 _ => h v' w' h7 h8)
    intro j u hu
    rcases h6 with rfl | ⟨g, off, ha, _, hc⟩
    · have : news = [] := List.length_eq_zero_iff.1 (by simpa using h4)
      subst this
      simp at hu
    · cases ha
      have hadd : (⟨g, off, none⟩ : Addr).add j = ⟨g, off + j, none⟩ := by unfold Addr.add; split <;> simp_all
      rw [hadd]
      exact hc j u hu

/-- A part of a slice: 's[lo:hi]', its cells. -/
theorem Row.part {w : World} {v : Value} {size n : Nat} {xs : List Value} (h : Row w v size n xs) : ∃ a cap, v = .slice a n cap ∧ n ≤ cap ∧ cap ≤ 9223372036854775807 ∧ xs.length = n * size ∧
    (n = 0 ∨ ∃ g o, a = some ⟨g, o, none⟩ ∧ g < w.heap.size ∧ ∀ lo m c, lo + m ≤ n → m ≤ c → c ≤ 9223372036854775807 → Row w (.slice (some ⟨g, o + lo * size, none⟩) m c) size m ((xs.drop (lo * size)).take (m * size))) := by
  obtain ⟨a, cap, hv, h1, h2, h3, h4, h5⟩ := h
  refine ⟨a, cap, hv, h1, by unfold maxLen at h2; omega, h3, ?_⟩
  rcases h5 with h5 | ⟨g, o, ha, hg, hc⟩
  · exact .inl h5
  · refine .inr ⟨g, o, ha, hg, fun lo m c hlo hm hc' => ⟨_, c, rfl, hm, by unfold maxLen; omega, ?_, (fun h => by cases h), .inr ⟨g, _, rfl, hg, fun j u hu => ?_⟩⟩⟩
    · rw [List.length_take, List.length_drop, h3]
      have : lo * size + m * size ≤ n * size := by rw [← Nat.add_mul]; exact Nat.mul_le_mul_right _ hlo
      omega
    · rw [List.getElem?_take] at hu
      split at hu
      · rw [List.getElem?_drop] at hu
        have := hc _ u hu
        rw [← Nat.add_assoc] at this
        exact this
      · cases hu

/-- The elements of an owned row as a slice that is read, in a later world. -/
theorem own_row_later {w w' : World} {B e size n : Nat} {v : Value} {xs : List Value} (h : w.ownsRow B e size v n xs) (hb : Below w.heap.size w w') : Row w' v size n xs := row_of_own (own_below h hb)
theorem grown_below {w w' : World} {row : Option Nat} {B : Nat} {w0 : World} (hb : Below B w0 w) (hg : w.grownBy w' row) (hB : B ≤ w.heap.size) (hr : ∀ k, row = some k → B ≤ k) : Below B w0 w' := hb.grown hg hB hr
end Go.Proofs.Ytogennegbihceaa
