/- Expressions as lists of terms in prefix order, as trees; End, Depth, Nest, Valid as plain functions. No program. -/
import Derived.Below
namespace Go.Proofs.Ytogennegbihceaa
open Go.RowKit

/-- A term: its operation and its argument. -/
abbrev Tm := Int × Int

def ar (op : Int) : Int := if op < 1 ∨ 43 < op then -1 else if op ≤ 17 then 0 else if op ≤ 29 then 1 else if op ≤ 42 then 2 else 3
def aggB (op : Int) : Bool := decide (20 ≤ op) && decide (op ≤ 29)
theorem ar_bd (op : Int) : -1 ≤ ar op ∧ ar op ≤ 3 := by unfold ar; repeat' split
                                                        all_goals omega

inductive Ex where
  | lf (t : Tm)
  | un (t : Tm) (a : Ex)
  | bi (t : Tm) (a b : Ex)
  | tr (t : Tm) (a b c : Ex)

namespace Ex
def fl : Ex → List Tm
  | lf t => [t]
  | un t a => t :: a.fl
  | bi t a b => t :: (a.fl ++ b.fl)
  | tr t a b c => t :: (a.fl ++ (b.fl ++ c.fl))
def ok : Ex → Prop
  | lf t => ar t.1 = 0
  | un t a => ar t.1 = 1 ∧ a.ok
  | bi t a b => ar t.1 = 2 ∧ a.ok ∧ b.ok
  | tr t a b c => ar t.1 = 3 ∧ a.ok ∧ b.ok ∧ c.ok
def dp : Ex → Nat
  | lf _ => 1
  | un _ a => a.dp + 1
  | bi _ a b => max a.dp b.dp + 1
  | tr _ a b c => max a.dp (max b.dp c.dp) + 1
def ns : Ex → Nat
  | lf _ => 0
  | un t a => if aggB t.1 then a.ns + 1 else a.ns
  | bi _ a b => max a.ns b.ns
  | tr _ a b c => max a.ns (max b.ns c.ns)
theorem fl_pos (E : Ex) : 1 ≤ E.fl.length := by cases E <;> simp [fl]
end Ex

/-- How many terms the next w expressions have. -/
def endN : Nat → List Tm → Option Nat
  | 0, _ => some 0
  | _ + 1, [] => none
  | w + 1, t :: l => if ar t.1 < 0 then none else (endN (w + (ar t.1).toNat) l).map (· + 1)
theorem endN_zero (l : List Tm) : endN 0 l = some 0 := by cases l <;> rfl
theorem endN_nil (w : Nat) : endN (w + 1) [] = none := rfl
theorem endN_bad (w : Nat) (t : Tm) (l : List Tm) (h : ar t.1 < 0) : endN (w + 1) (t :: l) = none := by simp only [endN]; rw [if_pos h]
theorem endN_step (w : Nat) (t : Tm) (l : List Tm) (h : ¬ ar t.1 < 0) : endN (w + 1) (t :: l) = (endN (w + (ar t.1).toNat) l).map (· + 1) := by simp only [endN]; rw [if_neg h]
theorem endN_le (l : List Tm) : ∀ (w n : Nat), endN w l = some n → n ≤ l.length := by
  induction l with
  | nil => intro w n h; cases w <;> simp [endN] at h; simp [← h]
  | cons t l ih =>
    intro w n h
    cases w with
    | zero => simp [endN_zero] at h; simp [← h]
    | succ w =>
      by_cases hb : ar t.1 < 0
      · rw [endN_bad w t l hb] at h; cases h
      · rw [endN_step w t l hb] at h
        rw [Option.map_eq_some_iff] at h
        obtain ⟨m, hm, rfl⟩ := h
        have := ih _ _ hm
        simp; omega

theorem endN_fl (E : Ex) : E.ok → ∀ (w : Nat) (r : List Tm), endN (w + 1) (E.fl ++ r) = (endN w r).map (· + E.fl.length) := by
  induction E with
  | lf t =>
    intro h w r
    have h' : ar t.1 = 0 := h
    simp only [Ex.fl, List.cons_append, List.nil_append]
    rw [endN_step w t r (by omega), h']; rfl
  | un t a iha =>
    intro ⟨h, ha⟩ w r
    simp only [Ex.fl, List.cons_append]
    rw [endN_step w t _ (by omega), h, show w + (1 : Int).toNat = w + 1 from rfl, iha ha, Option.map_map]
    congr 1
  | bi t a b iha ihb =>
    intro ⟨h, ha, hb⟩ w r
    simp only [Ex.fl, List.cons_append, List.append_assoc]
    rw [endN_step w t _ (by omega), h, show w + (2 : Int).toNat = (w + 1) + 1 from rfl, iha ha, ihb hb, Option.map_map, Option.map_map]
    congr 1
    funext x; simp [List.length_append]; omega
  | tr t a b c iha ihb ihc =>
    intro ⟨h, ha, hb, hc⟩ w r
    simp only [Ex.fl, List.cons_append, List.append_assoc]
    rw [endN_step w t _ (by omega), h, show w + (3 : Int).toNat = ((w + 1) + 1) + 1 from rfl, iha ha, ihb hb, ihc hc, Option.map_map, Option.map_map, Option.map_map]
    congr 1
    funext x; simp [List.length_append]; omega

/-- The expressions of a list, from its end on. -/
def forest : List Tm → Option (List Ex)
  | [] => some []
  | t :: l =>
    match forest l with
    | none => none
    | some F =>
      if ar t.1 = 0 then some (.lf t :: F)
      else if ar t.1 = 1 then (match F with | a :: F => some (.un t a :: F) | _ => none)
      else if ar t.1 = 2 then (match F with | a :: b :: F => some (.bi t a b :: F) | _ => none)
      else if ar t.1 = 3 then (match F with | a :: b :: c :: F => some (.tr t a b c :: F) | _ => none)
      else none
theorem forest_fl (E : Ex) : E.ok → ∀ (r : List Tm) (F : List Ex), forest r = some F → forest (E.fl ++ r) = some (E :: F) := by
  induction E with
  | lf t => intro h r F hr; have h' : ar t.1 = 0 := h; simp [Ex.fl, forest, hr, h']
  | un t a iha => intro ⟨h, ha⟩ r F hr; simp [Ex.fl, forest, iha ha r F hr, h]
  | bi t a b iha ihb => intro ⟨h, ha, hb⟩ r F hr; simp [Ex.fl, forest, iha ha _ _ (ihb hb r F hr), h]
  | tr t a b c iha ihb ihc => intro ⟨h, ha, hb, hc⟩ r F hr; simp [Ex.fl, forest, iha ha _ _ (ihb hb _ _ (ihc hc r F hr)), h]
def flAll (F : List Ex) : List Tm := F.flatMap Ex.fl
theorem forest_inv (l : List Tm) : ∀ F, forest l = some F → (∀ E ∈ F, E.ok) ∧ flAll F = l := by
  induction l with
  | nil => intro F h; simp [forest] at h; subst h; simp [flAll]
  | cons t l ih =>
    intro F h
    simp only [forest] at h
    cases hl : forest l with
    | none => rw [hl] at h; cases h
    | some G =>
      obtain ⟨h1, h2⟩ := ih G hl
      rw [hl] at h
      simp only at h
      by_cases a0 : ar t.1 = 0
      · rw [if_pos a0] at h; cases h
        refine ⟨fun E hE => ?_, by simp only [flAll, List.flatMap_cons, Ex.fl] at *; rw [h2]; rfl⟩
        cases hE with
        | head => exact a0
        | tail _ hE => exact h1 E hE
      rw [if_neg a0] at h
      by_cases a1 : ar t.1 = 1
      · rw [if_pos a1] at h
        match G, h, h1, h2 with
        | a :: G, h, h1, h2 =>
          cases h
          refine ⟨fun E hE => ?_, by simp only [flAll, List.flatMap_cons, Ex.fl] at *; rw [← h2]; rfl⟩
          cases hE with
          | head => exact ⟨a1, h1 a (List.mem_cons_self ..)⟩
          | tail _ hE => exact h1 E (List.mem_cons_of_mem _ hE)
      rw [if_neg a1] at h
      by_cases a2 : ar t.1 = 2
      · rw [if_pos a2] at h
        match G, h, h1, h2 with
        | a :: b :: G, h, h1, h2 =>
          cases h
          refine ⟨fun E hE => ?_, by simp only [flAll, List.flatMap_cons, Ex.fl] at *; rw [← h2]; simp⟩
          cases hE with
          | head => exact ⟨a2, h1 a (by simp), h1 b (by simp)⟩
          | tail _ hE => exact h1 E (List.mem_cons_of_mem _ (List.mem_cons_of_mem _ hE))
      rw [if_neg a2] at h
      by_cases a3 : ar t.1 = 3
      · rw [if_pos a3] at h
        match G, h, h1, h2 with
        | a :: b :: c :: G, h, h1, h2 =>
          cases h
          refine ⟨fun E hE => ?_, by simp only [flAll, List.flatMap_cons, Ex.fl] at *; rw [← h2]; simp⟩
          cases hE with
          | head => exact ⟨a3, h1 a (by simp), h1 b (by simp), h1 c (by simp)⟩
          | tail _ hE => exact h1 E (List.mem_cons_of_mem _ (List.mem_cons_of_mem _ (List.mem_cons_of_mem _ hE)))
      rw [if_neg a3] at h; cases h

/-- The expression that a whole list is. -/
def parse (l : List Tm) : Option Ex := match forest l with | some [E] => some E | _ => none
theorem parse_fl (E : Ex) (h : E.ok) : parse E.fl = some E := by
  have := forest_fl E h [] [] rfl
  rw [List.append_nil] at this
  unfold parse; rw [this]
theorem parse_some {l : List Tm} {E : Ex} (h : parse l = some E) : E.ok ∧ E.fl = l := by
  unfold parse at h
  split at h
  · rename_i E' hf
    cases h
    obtain ⟨h1, h2⟩ := forest_inv l _ hf
    exact ⟨h1 E (by simp), by simpa [flAll] using h2⟩
  · cases h

/-- If w expressions fill n terms, they are a forest. -/
theorem endN_forest (l : List Tm) : ∀ (w n : Nat), endN w l = some n → ∃ F : List Ex, F.length = w ∧ (∀ E ∈ F, E.ok) ∧ l.take n = flAll F := by
  induction l with
  | nil => intro w n h; cases w <;> simp [endN] at h; exact ⟨[], rfl, by simp, by simp [flAll]⟩
  | cons t l ih =>
    intro w n h
    cases w with
    | zero => rw [endN_zero] at h; cases h; exact ⟨[], rfl, by simp, by simp [flAll]⟩
    | succ w =>
      by_cases hb : ar t.1 < 0
      · rw [endN_bad w t l hb] at h; cases h
      · rw [endN_step w t l hb, Option.map_eq_some_iff] at h
        obtain ⟨m, hm, rfl⟩ := h
        obtain ⟨F, h1, h2, h3⟩ := ih _ _ hm
        rw [List.take_succ_cons, h3]
        have hk := ar_bd t.1
        have cases4 : ar t.1 = 0 ∨ ar t.1 = 1 ∨ ar t.1 = 2 ∨ ar t.1 = 3 := by omega
        rcases cases4 with hk | hk | hk | hk <;> rw [hk] at h1
        · exact ⟨.lf t :: F, by simp at *; omega, fun E hE => by
            cases hE with
            | head => exact hk
            | tail _ hE => exact h2 E hE, by simp [flAll, Ex.fl]⟩
        · match F, h1, h2 with
          | a :: F, h1, h2 => exact ⟨.un t a :: F, by simp at *; omega, fun E hE => by
              cases hE with
              | head => exact ⟨hk, h2 a (by simp)⟩
              | tail _ hE => exact h2 E (List.mem_cons_of_mem _ hE), by simp [flAll, Ex.fl]⟩
          | [], h1, _ => simp at h1
        · match F, h1, h2 with
          | a :: b :: F, h1, h2 => exact ⟨.bi t a b :: F, by simp at *; omega, fun E hE => by
              cases hE with
              | head => exact ⟨hk, h2 a (by simp), h2 b (by simp)⟩
              | tail _ hE => exact h2 E (List.mem_cons_of_mem _ (List.mem_cons_of_mem _ hE)), by simp [flAll, Ex.fl]⟩
          | [a], h1, _ => simp at h1
          | [], h1, _ => simp at h1
        · match F, h1, h2 with
          | a :: b :: c :: F, h1, h2 => exact ⟨.tr t a b c :: F, by simp at *; omega, fun E hE => by
              cases hE with
              | head => exact ⟨hk, h2 a (by simp), h2 b (by simp), h2 c (by simp)⟩
              | tail _ hE => exact h2 E (List.mem_cons_of_mem _ (List.mem_cons_of_mem _ (List.mem_cons_of_mem _ hE))), by simp [flAll, Ex.fl]⟩
          | [a, b], h1, _ => simp at h1
          | [a], h1, _ => simp at h1
          | [], h1, _ => simp at h1

/-- A list is one expression exactly if its first expression fills it. -/
theorem parse_iff (l : List Tm) : (∃ E, parse l = some E) ↔ endN 1 l = some l.length := by
  constructor
  · rintro ⟨E, h⟩
    obtain ⟨h1, h2⟩ := parse_some h
    have := endN_fl E h1 0 []
    rw [List.append_nil, h2, endN_zero] at this
    simpa using this
  · intro h
    obtain ⟨F, h1, h2, h3⟩ := endN_forest l 1 l.length h
    match F, h1, h2, h3 with
    | [E], _, h2, h3 =>
      refine ⟨E, ?_⟩
      rw [List.take_length] at h3
      rw [h3, flAll, List.flatMap_cons, List.flatMap_nil, List.append_nil]
      exact parse_fl E (h2 E (by simp))

def argB (vars : Int) (t : Tm) : Bool :=
  if t.1 = 1 then decide (0 ≤ t.2) && decide (t.2 ≤ 1073741824) else if t.1 = 5 ∨ t.1 = 12 then decide (0 ≤ t.2) && decide (t.2 < vars) else decide (t.2 = 0)
/-- Valid. -/
def validB (l : List Tm) (vars : Int) : Bool :=
  match parse l with
  | none => false
  | some E => decide (l.length ≤ 200) && (l.all (argB vars) && (decide (E.dp ≤ 24) && decide (E.ns ≤ 2)))
end Go.Proofs.Ytogennegbihceaa
