/- Terms changed one after the other, in memory and as lists; numbers replaced; renamed variables. No program. -/
import Derived.Test.YtdjhkjidakimhaaTypeMath
namespace Go.Proofs.Ytdjhkjidakimhaa
open Go.RowKit

def tcell (t : Tm) : List Value := [.int .i64 t.1, .int .i64 t.2]
theorem set_self {α : Type} (l : List α) (k : Nat) (x : α) (h : l[k]? = some x) : l.set k x = l := by
  obtain ⟨h1, h2⟩ := List.getElem?_eq_some_iff.1 h
  rw [← h2]; exact List.set_getElem_self h1
/-- The first k terms are changed. -/
def mix (g : Tm → Tm) (l : List Tm) (k : Nat) : List Tm := (l.take k).map g ++ l.drop k
theorem mix_zero (g : Tm → Tm) (l : List Tm) : mix g l 0 = l := by simp [mix]
theorem mix_all (g : Tm → Tm) (l : List Tm) : mix g l l.length = l.map g := by simp [mix]
theorem mix_length (g : Tm → Tm) (l : List Tm) (k : Nat) : (mix g l k).length = l.length := by
  simp [mix]; omega
theorem mix_get (g : Tm → Tm) (l : List Tm) (k : Nat) (h : k < l.length) : (mix g l k)[k]? = some l[k] := by
  unfold mix
  rw [List.getElem?_append_right (by simp; omega)]
  simp [Nat.min_eq_left (Nat.le_of_lt h)]
theorem mix_succ (g : Tm → Tm) (l : List Tm) (k : Nat) (h : k < l.length) : mix g l (k + 1) = (mix g l k).set k (g l[k]) := by
  unfold mix
  rw [List.set_append_right _ _ (by simp; omega), List.take_succ_eq_append_getElem h, List.map_append, List.append_assoc]
  congr 1
  rw [List.length_map, List.length_take, Nat.min_eq_left (Nat.le_of_lt h), Nat.sub_self, List.drop_eq_getElem_cons h]
  rfl
theorem flat_set (l : List Tm) : ∀ (i : Nat) (t : Tm) (b : Int), l[i]? = some t → (l.flatMap tcell).set (i * 2 + 1) (.int .i64 b) = (l.set i (t.1, b)).flatMap tcell := by
  induction l with
  | nil => intro i t b h; simp at h
  | cons x l ih =>
    intro i t b h
    cases i with
    | zero => simp at h; subst h; simp [tcell]
    | succ i =>
      have := ih i t b (by simpa using h)
      rw [List.flatMap_cons, List.set_cons_succ, List.flatMap_cons, ← this]
      rw [show (i + 1) * 2 + 1 = (i * 2 + 1) + 1 + 1 by omega]
      rfl

/-- Numbers are replaced by one number. -/
def numG (v : Int) (t : Tm) : Tm := if t.1 = 1 ∧ 0 ≤ t.2 ∧ t.2 ≤ 1073741824 then (t.1, v) else t
theorem numG_op (v : Int) (t : Tm) : (numG v t).1 = t.1 := by unfold numG; split <;> rfl
theorem numG_arg (v : Int) (hv : 0 ≤ v ∧ v ≤ 1073741824) (n : Int) (t : Tm) : argB n (numG v t) = argB n t := by
  unfold numG
  split
  · rename_i h
    obtain ⟨op, x⟩ := t
    simp only at h
    obtain ⟨rfl, h1, h2⟩ := h
    rw [Bool.eq_iff_iff]
    simp only [argB, if_true, Bool.and_eq_true, decide_eq_true_eq]
    omega
  · rfl
theorem numG_leaf (v : Int) (k : List Int) (t : Tm) : leafTy k (numG v t) = leafTy k t := by
  unfold numG
  split
  · rename_i h
    obtain ⟨op, x⟩ := t
    simp only at h
    obtain ⟨rfl, h1, h2⟩ := h
    simp [leafTy]
  · rfl
theorem ofF_num (v : Int) (hv : 0 ≤ v ∧ v ≤ 1073741824) (l : List Tm) (k : List Int) (bound : Bool) : ofF (l.map (numG v)) k bound = ofF l k bound := by
  apply ofF_map (numG v) (numG_op v) k k l bound Iff.rfl rfl
  · rw [List.all_map]
    apply List.all_congr rfl
    intro t
    exact numG_arg v hv _ t
  · intro _ t _ _; exact numG_leaf v k t
/-- Variables are renamed. -/
def renG (m : List Int) (t : Tm) : Tm := if t.1 = 5 ∨ t.1 = 12 then (t.1, m.getD t.2.toNat 0) else t
theorem renG_op (m : List Int) (t : Tm) : (renG m t).1 = t.1 := by unfold renG; split <;> rfl
theorem ofF_ren (l : List Tm) (kinds m oth : List Int) (bound : Bool) (hm : m.length = kinds.length) (h6 : kinds.length ≤ 6) (hval : validB l kinds.length = true) (hmr : ∀ x ∈ m, 0 ≤ x ∧ x < 6) (hol : oth.length = 6) (hko : kindsB oth = true) (hkk : kindsB kinds = true)
    (heq : ∀ i, i < m.length → oth.getD (m.getD i 0).toNat 0 = kinds.getD i 0) : ofF (l.map (renG m)) oth bound = ofF l kinds bound := by
  obtain ⟨_, _, _, _, _, harg, _, _⟩ := valid_parse hval
  have hin : ∀ t ∈ l, t.1 = 5 ∨ t.1 = 12 → t.2.toNat < m.length := by
    intro t ht h5
    have := List.all_eq_true.1 harg t ht
    unfold argB at this
    rw [if_neg (by omega), if_pos h5] at this
    simp at this
    omega
  apply ofF_map (renG m) (renG_op m) kinds oth l bound (by omega) (by rw [hko, hkk])
  · rw [harg, List.all_eq_true]
    intro t' ht'
    rw [List.mem_map] at ht'
    obtain ⟨t, ht, rfl⟩ := ht'
    have h0 := List.all_eq_true.1 harg t ht
    by_cases h5 : t.1 = 5 ∨ t.1 = 12
    · have hlt := hin t ht h5
      have hx := hmr m[t.2.toNat] (List.getElem_mem hlt)
      unfold renG
      rw [if_pos h5]
      unfold argB
      simp only
      rw [if_neg (by omega), if_pos h5, List.getD_eq_getElem?_getD, List.getElem?_eq_getElem hlt, hol]
      simp; omega
    · unfold renG
      rw [if_neg h5]
      unfold argB at *
      rw [if_neg h5] at *
      exact h0
  · intro _ t ht _
    by_cases h5 : t.1 = 5 ∨ t.1 = 12
    · have hlt := hin t ht h5
      have := heq _ hlt
      unfold renG
      rw [if_pos h5]
      unfold leafTy
      simp only
      rw [if_neg (by omega), if_neg (by omega), if_pos h5, if_neg (by omega), if_neg (by omega), if_pos h5]
      exact this
    · unfold renG
      rw [if_neg h5]
      unfold leafTy
      rw [if_neg h5, if_neg h5]
/-- The list of types behind so many assignments. -/
def othAt (kinds m : List Int) : Nat → List Int
  | 0 => [1, 1, 1, 1, 1, 1]
  | k + 1 => (othAt kinds m k).set (m.getD k 0).toNat (kinds.getD k 0)
theorem othAt_length (kinds m : List Int) (k : Nat) : (othAt kinds m k).length = 6 := by
  induction k with
  | zero => rfl
  | succ k ih => rw [othAt, List.length_set]; exact ih
theorem othAt_kinds (kinds m : List Int) (hk : kindsB kinds = true) (k : Nat) (h : k ≤ kinds.length) : kindsB (othAt kinds m k) = true := by
  induction k with
  | zero => rfl
  | succ k ih =>
    have h1 := ih (by omega)
    unfold kindsB at *
    rw [List.all_eq_true] at *
    intro x hx
    rw [othAt] at hx
    rcases List.mem_or_eq_of_mem_set hx with h2 | rfl
    · exact h1 x h2
    · rw [List.getD_eq_getElem?_getD, List.getElem?_eq_getElem (by omega)]
      exact hk _ (List.getElem_mem _)
theorem tmod_emod (k n : Int) (hn : 0 < n) : (if k.tmod n < 0 then k.tmod n + n else k.tmod n) = k % n := by
  rw [Int.tmod_eq_emod]
  have h1 := Int.emod_nonneg k (show n ≠ 0 by omega)
  have h2 := Int.emod_lt_of_pos k hn
  split <;> split <;> omega
end Go.Proofs.Ytdjhkjidakimhaa
