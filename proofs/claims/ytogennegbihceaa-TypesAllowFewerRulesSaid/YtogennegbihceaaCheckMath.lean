/- Check on data: names, forms, types. -/
import Derived.Test.YtogennegbihceaaCheckWalk1
import Derived.Test.YtogennegbihceaaLexWords
set_option linter.unusedVariables false
namespace Go.Proofs.Ytogennegbihceaa
open Go.RowKit

def nkey (s : ByteArray) : List UInt8 := s.data.toList
theorem nkey_beq (a b : ByteArray) : (a.toList == b.toList) = decide (nkey a = nkey b) := by
  rw [ByteArray.toList_eq, ByteArray.toList_eq, Bool.eq_iff_iff]; simp [nkey]
theorem nkey_inj {a b : ByteArray} (h : nkey a = nkey b) : a = b := by
  cases a; cases b
  simp only [nkey] at h
  congr
  exact Array.toList_inj.1 h
def namesB (l : List ByteArray) : Bool := l.all nameB && decide ((l.map nkey).Nodup)
theorem names_bad {l : List ByteArray} (k : Nat) (hk : k < l.length) (h : nameB l[k] = false) : namesB l = false := by
  unfold namesB
  have : l.all nameB = false := by rw [List.all_eq_false]; exact ⟨l[k], List.getElem_mem hk, by simp [h]⟩
  rw [this]; rfl
theorem names_twice {l : List ByteArray} (j k : Nat) (hjk : j < k) (hk : k < l.length) (h : nkey (l[j]'(by omega)) = nkey l[k]) : namesB l = false := by
  unfold namesB
  have : ¬ (l.map nkey).Nodup := by
    intro hn
    have hn' := List.pairwise_iff_getElem.1 hn j k (by simp; omega) (by simpa using hk) hjk
    apply hn'
    simp [h]
  simp [this]
theorem names_step {l : List ByteArray} (k : Nat) (hk : k < l.length) (h : namesB (l.take k) = true) (h1 : nameB l[k] = true) (h2 : nkey l[k] ∉ (l.take k).map nkey) : namesB (l.take (k + 1)) = true := by
  unfold namesB at *
  rw [Bool.and_eq_true, decide_eq_true_eq] at *
  rw [List.take_succ_eq_append_getElem hk, List.all_append, h.1, List.map_append]
  refine ⟨by simpa using h1, ?_⟩
  rw [List.nodup_append]
  refine ⟨h.2, by simp, ?_⟩
  intro a ha b hb
  simp only [List.map_singleton, List.mem_singleton] at hb
  subst hb
  intro hab
  exact h2 (hab ▸ ha)
/-- A name that stands among the first k. -/
theorem mem_names {l : List ByteArray} {k : Nat} {x : List UInt8} (h : x ∈ (l.take k).map nkey) : ∃ j, ∃ h : j < l.length, j < k ∧ nkey l[j] = x := by
  rw [List.mem_map] at h
  obtain ⟨s, hs, rfl⟩ := h
  obtain ⟨j, hj⟩ := List.getElem?_of_mem hs
  have hjk : j < k := by
    have := (List.getElem?_eq_some_iff.1 hj).1
    rw [List.length_take] at this; omega
  rw [List.getElem?_take, if_pos hjk] at hj
  obtain ⟨h1, h2⟩ := List.getElem?_eq_some_iff.1 hj
  exact ⟨j, h1, hjk, by rw [h2]⟩
theorem names_again {l : List ByteArray} {k : Nat} (hk : k < l.length) (h : nkey l[k] ∈ (l.take k).map nkey) : namesB l = false := by
  obtain ⟨j, hj, hjk, he⟩ := mem_names h
  exact names_twice j k hjk hk he

/-- All names of a program are names, and different where they have to be. -/
def namedB (p : ProgD) : Bool := nameB p.name && (namesB (p.vars.map (·.name)) && namesB (p.rules.map (·.name)))
/-- A rule of a program with so many variables is well-formed. -/
def formedB (r : RuleD) (n : Int) : Bool :=
  decide (1 ≤ r.sets.length) && (decide (r.sets.length ≤ 6) && (validB r.guard n && (r.sets.all (fun s => withinB s.var 0 (n - 1) && validB s.val n) && decide ((r.sets.map (·.var)).Nodup))))
/-- The expressions of a rule have their types. -/
def typedB (r : RuleD) (kinds : List Int) : Bool := ((ofF r.guard kinds false).1 == 2) && r.sets.all (fun s => (ofF s.val kinds false).1 == kinds.getD s.var.toNat 0)
def kindsOf (p : ProgD) : List Int := p.vars.map (·.kind)
/-- Check. -/
def checkF (p : ProgD) : Int :=
  if p.vars.length = 0 ∨ 6 < p.vars.length ∨ 12 < p.rules.length then 3 else if namedB p = false then 5 else if p.vars.all numB = false then 2 else
  if p.rules.all (formedB · p.vars.length) = false then 7 else if p.rules.all (typedB · (kindsOf p)) = false then 6 else 0
theorem checkF_bd (p : ProgD) : 0 ≤ checkF p ∧ checkF p ≤ 7 := by
  unfold checkF
  repeat' split
  all_goals omega

theorem all_bad {α : Type} {f : α → Bool} {l : List α} (k : Nat) (hk : k < l.length) (h : f l[k] = false) : l.all f = false := by
  rw [List.all_eq_false]; exact ⟨l[k], List.getElem_mem hk, by simp [h]⟩
theorem all_step {α : Type} {f : α → Bool} {l : List α} (k : Nat) (hk : k < l.length) (h : (l.take k).all f = true) (hw : f l[k] = true) : (l.take (k + 1)).all f = true := by
  rw [List.take_succ_eq_append_getElem hk, List.all_append, h]; simp [hw]
theorem all_end {α : Type} {f : α → Bool} {l : List α} (h : (l.take l.length).all f = true) : l.all f = true := by rw [List.take_length] at h; exact h
end Go.Proofs.Ytogennegbihceaa
