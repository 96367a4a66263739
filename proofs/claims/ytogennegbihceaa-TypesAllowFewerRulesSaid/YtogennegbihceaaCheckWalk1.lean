/- The walks over within, in and numbers. -/
import Derived.Test.YtogennegbihceaaDataP
import Derived.Test.YtogennegbihceaaTypeUse
set_option linter.unusedVariables false
set_option maxRecDepth 100000
namespace Go.Proofs.Ytogennegbihceaa
open Go.RowKit

def withinB (n lo hi : Int) : Bool := decide (lo ≤ n) && decide (n ≤ hi)
theorem within_any (n lo hi : Int) (w : World) : Calls Try.prog 42 #[.int .i64 n, .int .i64 lo, .int .i64 hi] w fun e w' => e = .returned (.bool (withinB n lo hi)) ∧ w = w' := by
  go_enter Try.func42, Try.ntmps42
  go_wp2
  all_goals go_ret
  all_goals exact ⟨ret_bool (by rw [Bool.eq_iff_iff]; simp [withinB]; try omega), rfl⟩
theorem rin_any (n lo hi : Int) (w : World) : Calls Try.prog 14 #[.int .i64 n, .int .i64 lo, .int .i64 hi] w fun e w' => e = .returned (.bool (withinB n lo hi)) ∧ w = w' := by
  go_enter Try.func14, Try.ntmps14
  go_wp2
  all_goals go_ret
  all_goals exact ⟨ret_bool (by rw [Bool.eq_iff_iff]; simp [withinB]; try omega), rfl⟩
/-- A variable has a possible type and possible numbers. -/
def numB (x : VarD) : Bool :=
  kindB x.kind && (if (x.kind != 1) = true then (x.lo == 0) && ((x.hi == 0) && ((x.perNode == 0) && (x.perID == 0))) else
    withinB x.lo 0 4096 && (withinB x.perNode 0 255 && (withinB x.perID 0 255 && (if ((x.perNode == 0) && (x.perID == 0)) = true then withinB x.hi 0 4096 else ((x.perNode == 0) || (x.perID == 0)) && withinB x.hi (-4096) 4096))))
theorem kind_one (k : Int) (h : (k != 1) = false) : kindB k = true := by
  simp at h; subst h; rfl

set_option maxHeartbeats 4000000 in
theorem numbers_any (x : VarD) (w : World) : Calls Try.prog 24 #[.agg #[.string x.name, .int .i64 x.kind, .int .i64 x.lo, .int .i64 x.hi, .int .i64 x.perNode, .int .i64 x.perID]] w fun e w' => e = .returned (.bool (numB x)) ∧ Below w.heap.size w w' := by
  obtain ⟨name, kind, lo, hi, pn, pi⟩ := x
  rcases Bool.eq_false_or_eq_true (kind != 1) with q1 | q1
  · rcases Bool.eq_false_or_eq_true (kindB kind) with q0 | q0
    · rcases Bool.eq_false_or_eq_true (lo == 0) with q2 | q2 <;> rcases Bool.eq_false_or_eq_true (hi == 0) with q3 | q3 <;> rcases Bool.eq_false_or_eq_true (pn == 0) with q4 | q4
      all_goals
        go_enter Try.func24, Try.ntmps24
        go_wp2_with (first | (go_at_call 20; refine (possible_any _ _).mono ?_; rintro e w1 ⟨rfl, rfl⟩) | (go_at_call 42; refine (within_any _ _ _ _).mono ?_; rintro e w1 ⟨rfl, rfl⟩))
        go_ret
        exact ⟨ret_bool (by simp [numB, *]), (Below.refl _ _).alloc (Nat.le_refl _) _⟩
    ·
      go_enter Try.func24, Try.ntmps24
      go_wp2_with (first | (go_at_call 20; refine (possible_any _ _).mono ?_; rintro e w1 ⟨rfl, rfl⟩) | (go_at_call 42; refine (within_any _ _ _ _).mono ?_; rintro e w1 ⟨rfl, rfl⟩))
      go_ret
      exact ⟨ret_bool (by simp [numB, *]), (Below.refl _ _).alloc (Nat.le_refl _) _⟩
  · have q0 := kind_one kind q1
    rcases Bool.eq_false_or_eq_true (withinB lo 0 4096) with q2 | q2
    · rcases Bool.eq_false_or_eq_true (withinB pn 0 255) with q3 | q3
      · rcases Bool.eq_false_or_eq_true (withinB pi 0 255) with q4 | q4
        · rcases Bool.eq_false_or_eq_true (pn == 0) with q5 | q5 <;> rcases Bool.eq_false_or_eq_true (pi == 0) with q6 | q6
          all_goals have q7 : (pn != 0) = !(pn == 0) := rfl
          all_goals have q8 : (pi != 0) = !(pi == 0) := rfl
          all_goals simp only [q5, q6, Bool.not_true, Bool.not_false] at q7 q8
          all_goals
            go_enter Try.func24, Try.ntmps24
            go_wp2_with (first | (go_at_call 20; refine (possible_any _ _).mono ?_; rintro e w1 ⟨rfl, rfl⟩) | (go_at_call 42; refine (within_any _ _ _ _).mono ?_; rintro e w1 ⟨rfl, rfl⟩))
            go_ret
            exact ⟨ret_bool (by simp [numB, *]), (Below.refl _ _).alloc (Nat.le_refl _) _⟩
        ·
          go_enter Try.func24, Try.ntmps24
          go_wp2_with (first | (go_at_call 20; refine (possible_any _ _).mono ?_; rintro e w1 ⟨rfl, rfl⟩) | (go_at_call 42; refine (within_any _ _ _ _).mono ?_; rintro e w1 ⟨rfl, rfl⟩))
          go_ret
          exact ⟨ret_bool (by simp [numB, *]), (Below.refl _ _).alloc (Nat.le_refl _) _⟩
      ·
        go_enter Try.func24, Try.ntmps24
        go_wp2_with (first | (go_at_call 20; refine (possible_any _ _).mono ?_; rintro e w1 ⟨rfl, rfl⟩) | (go_at_call 42; refine (within_any _ _ _ _).mono ?_; rintro e w1 ⟨rfl, rfl⟩))
        go_ret
        exact ⟨ret_bool (by simp [numB, *]), (Below.refl _ _).alloc (Nat.le_refl _) _⟩
    ·
      go_enter Try.func24, Try.ntmps24
      go_wp2_with (first | (go_at_call 20; refine (possible_any _ _).mono ?_; rintro e w1 ⟨rfl, rfl⟩) | (go_at_call 42; refine (within_any _ _ _ _).mono ?_; rintro e w1 ⟨rfl, rfl⟩))
      go_ret
      exact ⟨ret_bool (by simp [numB, *]), (Below.refl _ _).alloc (Nat.le_refl _) _⟩

set_option maxHeartbeats 4000000 in
theorem rnumbers_any (x : VarD) (w : World) : Calls Try.prog 16 #[.agg #[.string x.name, .int .i64 x.kind, .int .i64 x.lo, .int .i64 x.hi, .int .i64 x.perNode, .int .i64 x.perID]] w fun e w' => e = .returned (.bool (numB x)) ∧ Below w.heap.size w w' := by
  obtain ⟨name, kind, lo, hi, pn, pi⟩ := x
  rcases Bool.eq_false_or_eq_true (kind != 1) with q1 | q1
  · rcases Bool.eq_false_or_eq_true (kindB kind) with q0 | q0
    · rcases Bool.eq_false_or_eq_true (lo == 0) with q2 | q2 <;> rcases Bool.eq_false_or_eq_true (hi == 0) with q3 | q3 <;> rcases Bool.eq_false_or_eq_true (pn == 0) with q4 | q4
      all_goals
        go_enter Try.func16, Try.ntmps16
        go_wp2_with (first | (go_at_call 29; refine (known_any _ _).mono ?_; rintro e w1 ⟨rfl, rfl⟩) | (go_at_call 14; refine (rin_any _ _ _ _).mono ?_; rintro e w1 ⟨rfl, rfl⟩))
        go_ret
        exact ⟨ret_bool (by simp [numB, *]), (Below.refl _ _).alloc (Nat.le_refl _) _⟩
    ·
      go_enter Try.func16, Try.ntmps16
      go_wp2_with (first | (go_at_call 29; refine (known_any _ _).mono ?_; rintro e w1 ⟨rfl, rfl⟩) | (go_at_call 14; refine (rin_any _ _ _ _).mono ?_; rintro e w1 ⟨rfl, rfl⟩))
      go_ret
      exact ⟨ret_bool (by simp [numB, *]), (Below.refl _ _).alloc (Nat.le_refl _) _⟩
  · have q0 := kind_one kind q1
    rcases Bool.eq_false_or_eq_true (withinB lo 0 4096) with q2 | q2
    · rcases Bool.eq_false_or_eq_true (withinB pn 0 255) with q3 | q3
      · rcases Bool.eq_false_or_eq_true (withinB pi 0 255) with q4 | q4
        · rcases Bool.eq_false_or_eq_true (pn == 0) with q5 | q5 <;> rcases Bool.eq_false_or_eq_true (pi == 0) with q6 | q6
          all_goals have q7 : (pn != 0) = !(pn == 0) := rfl
          all_goals have q8 : (pi != 0) = !(pi == 0) := rfl
          all_goals simp only [q5, q6, Bool.not_true, Bool.not_false] at q7 q8
          all_goals
            go_enter Try.func16, Try.ntmps16
            go_wp2_with (first | (go_at_call 29; refine (known_any _ _).mono ?_; rintro e w1 ⟨rfl, rfl⟩) | (go_at_call 14; refine (rin_any _ _ _ _).mono ?_; rintro e w1 ⟨rfl, rfl⟩))
            go_ret
            exact ⟨ret_bool (by simp [numB, *]), (Below.refl _ _).alloc (Nat.le_refl _) _⟩
        ·
          go_enter Try.func16, Try.ntmps16
          go_wp2_with (first | (go_at_call 29; refine (known_any _ _).mono ?_; rintro e w1 ⟨rfl, rfl⟩) | (go_at_call 14; refine (rin_any _ _ _ _).mono ?_; rintro e w1 ⟨rfl, rfl⟩))
          go_ret
          exact ⟨ret_bool (by simp [numB, *]), (Below.refl _ _).alloc (Nat.le_refl _) _⟩
      ·
        go_enter Try.func16, Try.ntmps16
        go_wp2_with (first | (go_at_call 29; refine (known_any _ _).mono ?_; rintro e w1 ⟨rfl, rfl⟩) | (go_at_call 14; refine (rin_any _ _ _ _).mono ?_; rintro e w1 ⟨rfl, rfl⟩))
        go_ret
        exact ⟨ret_bool (by simp [numB, *]), (Below.refl _ _).alloc (Nat.le_refl _) _⟩
    ·
      go_enter Try.func16, Try.ntmps16
      go_wp2_with (first | (go_at_call 29; refine (known_any _ _).mono ?_; rintro e w1 ⟨rfl, rfl⟩) | (go_at_call 14; refine (rin_any _ _ _ _).mono ?_; rintro e w1 ⟨rfl, rfl⟩))
      go_ret
      exact ⟨ret_bool (by simp [numB, *]), (Below.refl _ _).alloc (Nat.le_refl _) _⟩

end Go.Proofs.Ytogennegbihceaa
