/- What Check says of changed programs. -/
import Derived.Test.YtogennegbihceaaCheckWalk9
set_option linter.unusedVariables false
namespace Go.Proofs.Ytogennegbihceaa
open Go.RowKit

structure Good (p : ProgD) : Prop where
  lim : ¬ (p.vars.length = 0 ∨ 6 < p.vars.length ∨ 12 < p.rules.length)
  name : nameB p.name = true
  vnames : namesB (p.vars.map (·.name)) = true
  rnames : namesB (p.rules.map (·.name)) = true
  num : p.vars.all numB = true
  form : p.rules.all (formedB · p.vars.length) = true
  type : p.rules.all (typedB · (kindsOf p)) = true
theorem check_good {p : ProgD} (h : checkF p = 0) : Good p := by
  unfold checkF at h
  split at h
  · omega
  split at h
  · omega
  split at h
  · omega
  split at h
  · omega
  split at h
  · omega
  rename_i h1 h2 h3 h4 h5
  have h2' : namedB p = true := by simpa using h2
  unfold namedB at h2'
  simp only [Bool.and_eq_true] at h2'
  exact ⟨h1, h2'.1, h2'.2.1, h2'.2.2, by simpa using h3, by simpa using h4, by simpa using h5⟩
theorem Good.check {p : ProgD} (h : Good p) : checkF p = 0 := by
  have hn : namedB p = true := by unfold namedB; rw [h.name, h.vnames, h.rnames]; rfl
  exact check_ok h.lim hn h.num h.form h.type
/-- The rules are some of the rules, in some order, with different names. -/
theorem check_rules {p : ProgD} (h : Good p) (rs : List RuleD) (hl : rs.length ≤ 12) (hm : ∀ r ∈ rs, r ∈ p.rules) (hn : ((rs.map (·.name)).map nkey).Nodup) : checkF { p with rules := rs } = 0 := by
  apply Good.check
  have hall : ∀ (f : RuleD → Bool), p.rules.all f = true → rs.all f = true := fun f hf => List.all_eq_true.2 fun r hr => List.all_eq_true.1 hf r (hm r hr)
  refine ⟨?_, h.name, h.vnames, ?_, h.num, hall _ h.form, hall _ h.type⟩
  · have := h.lim; show ¬ (p.vars.length = 0 ∨ 6 < p.vars.length ∨ 12 < rs.length); omega
  · have h2 := h.rnames
    unfold namesB at *
    rw [Bool.and_eq_true] at *
    refine ⟨?_, by simpa using hn⟩
    have := hall (fun r => nameB r.name) (by have := h2.1; rw [List.all_map] at this; exact this)
    rw [List.all_map]; exact this
theorem names_nodup {p : ProgD} (h : Good p) : ((p.rules.map (·.name)).map nkey).Nodup := by
  have h2 := h.rnames
  unfold namesB at h2
  rw [Bool.and_eq_true, decide_eq_true_eq] at h2
  exact h2.2
theorem check_erase {p : ProgD} (h : checkF p = 0) (i : Nat) : checkF { p with rules := p.rules.take i ++ p.rules.drop (i + 1) } = 0 := by
  have hg := check_good h
  have hs : (p.rules.take i ++ p.rules.drop (i + 1)).Sublist p.rules := by
    rw [← List.eraseIdx_eq_take_drop_succ]; exact List.eraseIdx_sublist _ _
  refine check_rules hg _ ?_ (fun r hr => hs.subset hr) ?_
  · have := hs.length_le; have := hg.lim; omega
  · exact List.Sublist.nodup ((hs.map _).map _) (names_nodup hg)
theorem check_swap {p : ProgD} (h : checkF p = 0) (i k : Nat) (hi : i < p.rules.length) (hk : k < p.rules.length) : checkF { p with rules := (p.rules.set i p.rules[k]).set k p.rules[i] } = 0 := by
  have hg := check_good h
  have hp : ((p.rules.set i p.rules[k]).set k p.rules[i]).Perm p.rules := by
    have := List.set_set_perm hi hk
    exact this
  refine check_rules hg _ ?_ (fun r hr => hp.mem_iff.1 hr) ?_
  · rw [hp.length_eq]; have := hg.lim; omega
  · exact ((hp.map _).map _).nodup_iff.2 (names_nodup hg)
/-- An assignment more, of a variable that the rule sets already. -/
theorem check_twice_set {p : ProgD} (h : checkF p = 0) (i : Nat) (hi : i < p.rules.length) (h0 : 0 < p.rules[i].sets.length) : checkF { p with rules := p.rules.set i { p.rules[i] with sets := p.rules[i].sets ++ [p.rules[i].sets[0]] } } = 7 := by
  have hg := check_good h
  refine check_form ?_ ?_ hg.num ?_
  · have := hg.lim; simp only [List.length_set]; exact this
  · unfold namedB
    have : ((p.rules.set i { p.rules[i] with sets := p.rules[i].sets ++ [p.rules[i].sets[0]] }).map (·.name)) = p.rules.map (·.name) := by
      rw [List.map_set]
      apply List.ext_getElem?
      intro j
      rw [List.getElem?_set]
      split
      · rename_i hj; subst hj
        split
        · rw [List.getElem?_map, List.getElem?_eq_getElem hi]; rfl
        · rename_i hh; rw [List.length_map] at hh; exact absurd hi hh
      · rfl
    simp only [this]
    rw [hg.name, hg.vnames, hg.rnames]; rfl
  · apply all_bad i (by rw [List.length_set]; exact hi)
    simp only [List.getElem_set_self]
    rw [formedB_eq]
    have : setsB (p.rules[i].sets ++ [p.rules[i].sets[0]]) p.vars.length = false := by
      apply sets_twice 0 p.rules[i].sets.length h0 (by simp)
      simp [List.getElem_append_left h0]
    simp only [this, Bool.and_false]
theorem check_twice_var {p : ProgD} (h : checkF p = 0) (h0 : 0 < p.vars.length) : checkF { p with vars := p.vars ++ [p.vars[0]] } = if p.vars.length = 6 then 3 else 5 := by
  have hg := check_good h
  split
  · rename_i h6
    exact check_limit (by right; left; simp; omega)
  · rename_i h6
    refine check_name ?_ ?_
    · have := hg.lim; simp; omega
    · unfold namedB
      have : namesB ((p.vars ++ [p.vars[0]]).map (·.name)) = false := by
        apply names_twice 0 p.vars.length h0 (by simp)
        simp [List.getElem_append_left, h0]
      simp only [this, Bool.false_and, Bool.and_false]
end Go.Proofs.Ytogennegbihceaa
