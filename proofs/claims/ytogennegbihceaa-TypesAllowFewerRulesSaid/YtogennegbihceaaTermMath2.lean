/- Depth and Nest, as the program reckons them (a stack, from the end) and as the reference does (open terms, from the start). No program. -/
import Derived.Test.YtogennegbihceaaTermMath
namespace Go.Proofs.Ytogennegbihceaa
open Go.RowKit

def maxl : List Nat → Nat
  | [] => 0
  | a :: l => max a (maxl l)
/-- A number for each expression, made of the operation and of the greatest number of the operands. -/
def val (f : Int → Nat → Nat) : Ex → Nat
  | .lf t => f t.1 0
  | .un t a => f t.1 (val f a)
  | .bi t a b => f t.1 (max (val f a) (val f b))
  | .tr t a b c => f t.1 (max (val f a) (max (val f b) (val f c)))
/-- The stack behind a list that is read from its end; its top first. -/
def lev (f : Int → Nat → Nat) : List Tm → List Nat
  | [] => []
  | t :: l => f t.1 (maxl ((lev f l).take (ar t.1).toNat)) :: (lev f l).drop (ar t.1).toNat
theorem lev_forest (f : Int → Nat → Nat) (l : List Tm) : ∀ F, forest l = some F → lev f l = F.map (val f) := by
  induction l with
  | nil => intro F h; simp [forest] at h; subst h; rfl
  | cons t l ih =>
    intro F h
    simp only [forest] at h
    cases hl : forest l with
    | none => rw [hl] at h; cases h
    | some G =>
      have hG := ih G hl
      rw [hl] at h
      simp only at h
      simp only [lev, hG]
      by_cases a0 : ar t.1 = 0
      · rw [if_pos a0] at h; cases h
        rw [a0]; simp [maxl, val]
      rw [if_neg a0] at h
      by_cases a1 : ar t.1 = 1
      · rw [if_pos a1] at h
        match G, h with
        | a :: G, h => cases h; rw [a1]; simp [maxl, val]
      rw [if_neg a1] at h
      by_cases a2 : ar t.1 = 2
      · rw [if_pos a2] at h
        match G, h with
        | a :: b :: G, h => cases h; rw [a2]; simp [maxl, val]
      rw [if_neg a2] at h
      by_cases a3 : ar t.1 = 3
      · rw [if_pos a3] at h
        match G, h with
        | a :: b :: c :: G, h => cases h; rw [a3]; simp [maxl, val]
      rw [if_neg a3] at h; cases h
/-- At each place of an expression the stack holds what the operation asks for. -/
theorem forest_enough (l : List Tm) (t : Tm) (F : List Ex) (h : forest (t :: l) = some F) : ∃ G, forest l = some G ∧ 0 ≤ ar t.1 ∧ (ar t.1).toNat ≤ G.length ∧ F.length = G.length - (ar t.1).toNat + 1 := by
  simp only [forest] at h
  cases hl : forest l with
  | none => rw [hl] at h; cases h
  | some G =>
    rw [hl] at h
    simp only at h
    by_cases a0 : ar t.1 = 0
    · rw [if_pos a0] at h; cases h; exact ⟨G, rfl, by omega, by rw [a0]; simp, by rw [a0]; simp⟩
    rw [if_neg a0] at h
    by_cases a1 : ar t.1 = 1
    · rw [if_pos a1] at h
      match G, h with
      | a :: G, h => cases h; exact ⟨_, rfl, by omega, by rw [a1]; simp, by rw [a1]; simp⟩
    rw [if_neg a1] at h
    by_cases a2 : ar t.1 = 2
    · rw [if_pos a2] at h
      match G, h with
      | a :: b :: G, h => cases h; exact ⟨_, rfl, by omega, by rw [a2]; simp, by rw [a2]; simp⟩
    rw [if_neg a2] at h
    by_cases a3 : ar t.1 = 3
    · rw [if_pos a3] at h
      match G, h with
      | a :: b :: c :: G, h => cases h; exact ⟨_, rfl, by omega, by rw [a3]; simp, by rw [a3]; simp⟩
    rw [if_neg a3] at h; cases h
theorem forest_suffix (l : List Tm) : ∀ (k : Nat) (F : List Ex), forest l = some F → ∃ G, forest (l.drop k) = some G := by
  induction l with
  | nil => intro k F h; simp [forest]
  | cons t l ih =>
    intro k F h
    cases k with
    | zero => exact ⟨F, h⟩
    | succ k =>
      obtain ⟨G, hG, _⟩ := forest_enough l t F h
      exact ih k G hG

def depthF : Int → Nat → Nat := fun _ g => g + 1
def nestF : Int → Nat → Nat := fun op g => if aggB op then g + 1 else g
theorem val_depth (E : Ex) : val depthF E = E.dp := by
  induction E with
  | lf t => rfl
  | un t a iha => simp only [val, Ex.dp, iha, depthF]
  | bi t a b iha ihb => simp only [val, Ex.dp, iha, ihb, depthF]
  | tr t a b c iha ihb ihc => simp only [val, Ex.dp, iha, ihb, ihc, depthF]
theorem agg_ar {op : Int} (h : aggB op = true) : ar op = 1 := by
  simp [aggB] at h
  unfold ar; rw [if_neg (by omega), if_neg (by omega), if_pos (by omega)]
theorem agg_no {op : Int} (h : ar op ≠ 1) : aggB op = false := by
  cases hb : aggB op
  · rfl
  · exact absurd (agg_ar hb) h
theorem val_nest (E : Ex) : E.ok → val nestF E = E.ns := by
  induction E with
  | lf t => intro h; have h' : ar t.1 = 0 := h; simp only [val, Ex.ns, nestF, agg_no (op := t.1) (by omega)]; rfl
  | un t a iha => intro ⟨h, ha⟩; simp only [val, Ex.ns, iha ha, nestF]
  | bi t a b iha ihb => intro ⟨h, ha, hb⟩; simp only [val, Ex.ns, iha ha, ihb hb, nestF, agg_no (op := t.1) (by omega)]; rfl
  | tr t a b c iha ihb ihc => intro ⟨h, ha, hb, hc⟩; simp only [val, Ex.ns, iha ha, ihb hb, ihc hc, nestF, agg_no (op := t.1) (by omega)]; rfl

/-- The reference's open terms, the innermost first: how many operands are still to come, whether it is an aggregate. -/
abbrev Open := List (Nat × Bool)
def closeK (k : Nat) (b : Bool) : Open → Open
  | [] => if k = 0 then [] else [(k, b)]
  | (x, c) :: S => if k = 0 then closeK (x - 1) c S else (k, b) :: (x, c) :: S
def finS : Open → Open
  | [] => []
  | (x, c) :: S => closeK (x - 1) c S
def cnt (S : Open) : Nat := (S.filter (·.2)).length
structure Lev where
  S : Open
  d : Nat
  n : Nat
def levStep (s : Lev) (t : Tm) : Lev :=
  ⟨closeK (ar t.1).toNat (aggB t.1) s.S, max s.d (s.S.length + 1), max s.n (cnt (((ar t.1).toNat, aggB t.1) :: s.S))⟩
def levR (s : Lev) (l : List Tm) : Lev := l.foldl levStep s
theorem levR_append (s : Lev) (l m : List Tm) : levR s (l ++ m) = levR (levR s l) m := by unfold levR; rw [List.foldl_append]
theorem levR_cons (s : Lev) (t : Tm) (l : List Tm) : levR s (t :: l) = levR (levStep s t) l := rfl
theorem closeK_pos (k : Nat) (b : Bool) (S : Open) (h : k ≠ 0) : closeK k b S = (k, b) :: S := by
  cases S with
  | nil => simp [closeK, h]
  | cons x S => obtain ⟨x, c⟩ := x; simp [closeK, h]
theorem closeK_zero (b : Bool) (S : Open) : closeK 0 b S = finS S := by
  cases S with
  | nil => simp [closeK, finS]
  | cons x S => obtain ⟨x, c⟩ := x; simp [closeK, finS]
theorem finS_succ (k : Nat) (b : Bool) (S : Open) : finS ((k + 2, b) :: S) = (k + 1, b) :: S := by
  simp only [finS]; rw [closeK_pos _ _ _ (by omega)]; rfl
theorem finS_two (b : Bool) (S : Open) : finS ((2, b) :: S) = (1, b) :: S := finS_succ 0 b S
theorem finS_three (b : Bool) (S : Open) : finS ((3, b) :: S) = (2, b) :: S := finS_succ 1 b S
theorem finS_one (b : Bool) (S : Open) : finS ((1, b) :: S) = finS S := by simp only [finS]; exact closeK_zero b S
theorem cnt_cons (k : Nat) (b : Bool) (S : Open) : cnt ((k, b) :: S) = cnt S + (if b then 1 else 0) := by
  unfold cnt; cases b <;> simp

theorem levR_fl (E : Ex) : E.ok → ∀ s : Lev, levR s E.fl = ⟨finS s.S, max s.d (s.S.length + E.dp), max s.n (cnt s.S + E.ns)⟩ := by
  induction E with
  | lf t =>
    intro h s
    have h' : ar t.1 = 0 := h
    show levStep s t = _
    unfold levStep
    rw [h', agg_no (op := t.1) (by omega)]
    simp only [Int.toNat_zero, closeK_zero, cnt_cons, Ex.dp, Ex.ns]; rfl
  | un t a iha =>
    intro ⟨h, ha⟩ s
    simp only [Ex.fl, levR_cons]
    rw [iha ha]
    unfold levStep
    rw [h]
    simp only [Int.toNat_one, closeK_pos 1 _ _ (by omega), finS_one, List.length_cons, cnt_cons, Ex.dp, Ex.ns]
    congr 1
    · omega
    · split <;> omega
  | bi t a b iha ihb =>
    intro ⟨h, ha, hb⟩ s
    simp only [Ex.fl, levR_cons, levR_append]
    rw [iha ha, ihb hb]
    unfold levStep
    rw [h, agg_no (op := t.1) (by omega)]
    simp only [show (2 : Int).toNat = 2 from rfl, closeK_pos 2 _ _ (by omega), finS_two, finS_one, List.length_cons, cnt_cons, Ex.dp, Ex.ns]
    simp only [Lev.mk.injEq, Bool.false_eq_true, if_false, true_and]
    omega
  | tr t a b c iha ihb ihc =>
    intro ⟨h, ha, hb, hc⟩ s
    simp only [Ex.fl, levR_cons, levR_append]
    rw [iha ha, ihb hb, ihc hc]
    unfold levStep
    rw [h, agg_no (op := t.1) (by omega)]
    simp only [show (3 : Int).toNat = 3 from rfl, closeK_pos 3 _ _ (by omega), finS_three, finS_two, finS_one, List.length_cons, cnt_cons, Ex.dp, Ex.ns]
    simp only [Lev.mk.injEq, Bool.false_eq_true, if_false, true_and]
    omega
end Go.Proofs.Ytogennegbihceaa
