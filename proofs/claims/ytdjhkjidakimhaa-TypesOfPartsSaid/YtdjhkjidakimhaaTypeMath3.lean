/- The operands of a well-typed expression. No program. -/
import Derived.Test.YtdjhkjidakimhaaTypeMath2
set_option linter.unusedVariables false
namespace Go.Proofs.Ytdjhkjidakimhaa
open Go.RowKit

def kids : Ex → List Ex
  | .lf _ => []
  | .un _ a => [a]
  | .bi _ a b => [a, b]
  | .tr _ a b c => [a, b, c]
def hd : Ex → Tm
  | .lf t => t
  | .un t _ => t
  | .bi t _ _ => t
  | .tr t _ _ _ => t
theorem fl_hd (E : Ex) : ∃ r, E.fl = hd E :: r := by cases E <;> exact ⟨_, rfl⟩
theorem kids_ar (E : Ex) (h : E.ok) : ar (hd E).1 = (kids E).length := by
  cases E with
  | lf t => exact h
  | un t a => exact h.1
  | bi t a b => exact h.1
  | tr t a b c => exact h.1
theorem kid_facts (E A : Ex) (h : E.ok) (hA : A ∈ kids E) : A.ok ∧ A.fl.length ≤ E.fl.length ∧ (∀ t ∈ A.fl, t ∈ E.fl) ∧ A.dp ≤ E.dp ∧ A.ns ≤ E.ns := by
  cases E with
  | lf t => simp [kids] at hA
  | un t a =>
    simp only [kids, List.mem_singleton] at hA; subst hA
    refine ⟨h.2, by simp [Ex.fl], fun t ht => by simp [Ex.fl, ht], by simp [Ex.dp], ?_⟩
    simp only [Ex.ns]; split <;> omega
  | bi t a b =>
    simp only [kids, List.mem_cons, List.not_mem_nil, or_false] at hA
    rcases hA with rfl | rfl
    · exact ⟨h.2.1, by simp [Ex.fl]; omega, fun t ht => by simp [Ex.fl, ht], by simp only [Ex.dp]; omega, by simp only [Ex.ns]; omega⟩
    · exact ⟨h.2.2, by simp [Ex.fl]; omega, fun t ht => by simp [Ex.fl, ht], by simp only [Ex.dp]; omega, by simp only [Ex.ns]; omega⟩
  | tr t a b c =>
    simp only [kids, List.mem_cons, List.not_mem_nil, or_false] at hA
    rcases hA with rfl | rfl | rfl
    · exact ⟨h.2.1, by simp [Ex.fl]; omega, fun t ht => by simp [Ex.fl, ht], by simp only [Ex.dp]; omega, by simp only [Ex.ns]; omega⟩
    · exact ⟨h.2.2.1, by simp [Ex.fl]; omega, fun t ht => by simp [Ex.fl, ht], by simp only [Ex.dp]; omega, by simp only [Ex.ns]; omega⟩
    · exact ⟨h.2.2.2, by simp [Ex.fl]; omega, fun t ht => by simp [Ex.fl, ht], by simp only [Ex.dp]; omega, by simp only [Ex.ns]; omega⟩
theorem kid_ty (kinds : List Int) (hk : kindsB kinds = true) (bound : Bool) (E A : Ex) (h : E.ok) (hA : A ∈ kids E) (ht : ty kinds bound E ≠ 0) : ty kinds (bound || aggB (hd E).1) A ≠ 0 := by
  cases E with
  | lf t => simp [kids] at hA
  | un t a =>
    simp only [kids, List.mem_singleton] at hA; subst hA
    exact (ty1_bd _ _).2.2 ht
  | bi t a b =>
    have hg : aggB t.1 = false := agg_no (by have := h.1; omega)
    simp only [hd, hg, Bool.or_false]
    have := (ty2_bd _ _ _).2.2 ht
    simp only [kids, List.mem_cons, List.not_mem_nil, or_false] at hA
    rcases hA with rfl | rfl
    · exact this.1
    · exact this.2
  | tr t a b c =>
    have hg : aggB t.1 = false := agg_no (by have := h.1; omega)
    simp only [hd, hg, Bool.or_false]
    have := (ty3_bd _ _ _ (ty_bd kinds hk b bound)).2.2 ht
    simp only [kids, List.mem_cons, List.not_mem_nil, or_false] at hA
    rcases hA with rfl | rfl | rfl
    · exact this.1
    · exact this.2.1
    · exact this.2.2
theorem kid_valid (E A : Ex) (n : Int) (h : E.ok) (hA : A ∈ kids E) (hv : validB E.fl n = true) : validB A.fl n = true := by
  obtain ⟨E', hp, _, _, h1, h2, h3, h4⟩ := valid_parse hv
  rw [parse_fl E h] at hp
  cases hp
  obtain ⟨a1, a2, a3, a4, a5⟩ := kid_facts E A h hA
  unfold validB
  rw [parse_fl A a1]
  have hall : A.fl.all (argB n) = true := List.all_eq_true.2 fun t ht => List.all_eq_true.1 h2 t (a3 t ht)
  simp only [hall, Bool.true_and, Bool.and_eq_true, decide_eq_true_eq]
  omega
theorem kid_ofF (E A : Ex) (kinds : List Int) (bound : Bool) (h6 : ¬ 6 < kinds.length) (hk : kindsB kinds = true) (h : E.ok) (hA : A ∈ kids E) (hv : validB E.fl kinds.length = true) (ht : ty kinds bound E ≠ 0) :
    ∃ j, ofF A.fl kinds (bound || aggB (hd E).1) = (j, 0) ∧ 1 ≤ j ∧ j ≤ 3 := by
  have h1 := kid_ty kinds hk bound E A h hA ht
  have h2 := ty_bd kinds hk A (bound || aggB (hd E).1)
  refine ⟨_, ?_, ?_, h2.2⟩
  · rw [ofF_ok A.fl kinds _ A h6 hk (kid_valid E A _ h hA hv) (parse_fl A (kid_facts E A h hA).1), if_neg h1]
  · omega
theorem ofF_inv (l : List Tm) (kinds : List Int) (bound : Bool) (k : Int) (h : ofF l kinds bound = (k, 0)) : ∃ E, ¬ 6 < kinds.length ∧ kindsB kinds = true ∧ validB l kinds.length = true ∧ parse l = some E ∧ ty kinds bound E ≠ 0 ∧ 1 ≤ k ∧ k ≤ 3 := by
  by_cases h6 : 6 < kinds.length
  · rw [ofF_many _ _ _ h6] at h; cases h
  cases hk : kindsB kinds
  · rw [ofF_kinds _ _ _ hk] at h; cases h
  cases hv : validB l kinds.length
  · rw [ofF_invalid _ _ _ hv] at h; cases h
  obtain ⟨E, hp, _⟩ := valid_parse hv
  rw [ofF_ok _ _ _ E h6 hk hv hp] at h
  have := ty_bd kinds hk E bound
  split at h
  · cases h
  · rename_i h0
    cases h
    exact ⟨E, h6, rfl, rfl, hp, h0, by omega, by omega⟩
end Go.Proofs.Ytdjhkjidakimhaa
