/- The walks over the small functions of types: possible, leaf, result, and of its reference: known, leaf, single, double. -/
import Derived.Test.YtogennegbihceaaTermWalk4
set_option maxRecDepth 100000
namespace Go.Proofs.Ytogennegbihceaa
open Go.RowKit

def kindB (k : Int) : Bool := decide (k = 1) || (decide (k = 2) || decide (k = 3))
theorem possible_any (k : Int) (w : World) : Calls Try.prog 20 #[.int .i64 k] w fun e w' => e = .returned (.bool (kindB k)) ∧ w = w' := by
  go_enter Try.func20, Try.ntmps20
  go_wp2
  all_goals go_ret
  all_goals refine ⟨ret_bool ?_, rfl⟩
  all_goals (rw [Bool.eq_iff_iff]; simp [kindB]; try omega)
theorem known_any (k : Int) (w : World) : Calls Try.prog 29 #[.int .i64 k] w fun e w' => e = .returned (.bool (kindB k)) ∧ w = w' := by
  go_enter Try.func29, Try.ntmps29
  go_wp2
  all_goals go_ret
  all_goals refine ⟨ret_bool ?_, rfl⟩
  all_goals (rw [Bool.eq_iff_iff]; simp [kindB]; try omega)
theorem ifTrue_any (c : Bool) (k : Int) (w : World) : Calls Try.prog 59 #[.bool c, .int .i64 k] w fun e w' => e = .returned (.int .i64 (if c = true then k else 0)) ∧ w = w' := by
  cases c
  all_goals
    go_enter Try.func59, Try.ntmps59
    go_wp2
    go_ret
    exact ⟨ret_int (by simp), rfl⟩
/-- The type of an operation with operands of these types. -/
def resTy (op a b c : Int) : Int := if ar op = 1 then ty1 op a else if ar op = 2 then ty2 op a b else ty3 a b c
set_option maxHeartbeats 4000000 in
theorem result_any (op a b c : Int) (w : World) (h1 : 18 ≤ op) (h2 : op ≤ 43) :
    Calls Try.prog 40 #[.int .i64 op, .agg #[.int .i64 a, .int .i64 b, .int .i64 c]] w fun e w' => e = .returned (.int .i64 (resTy op a b c)) ∧ Below w.heap.size w w' := by
  have hop : op = 18 ∨ op = 19 ∨ op = 20 ∨ op = 21 ∨ op = 22 ∨ op = 23 ∨ op = 24 ∨ op = 25 ∨ op = 26 ∨ op = 27 ∨ op = 28 ∨ op = 29 ∨ op = 30 ∨ op = 31 ∨ op = 32 ∨ op = 33 ∨ op = 34 ∨ op = 35 ∨ op = 36 ∨ op = 37 ∨ op = 38 ∨ op = 39 ∨ op = 40 ∨ op = 41 ∨ op = 42 ∨ op = 43 := by omega
  rcases hop with rfl | rfl | rfl | rfl | rfl | rfl | rfl | rfl | rfl | rfl | rfl | rfl | rfl | rfl | rfl | rfl | rfl | rfl | rfl | rfl | rfl | rfl | rfl | rfl | rfl | rfl
  all_goals
    clear h1 h2
    go_enter Try.func40, Try.ntmps40
    go_wp2_with fail
    go_quiet (fail)
    go_wp2_with (go_at_call 59; refine (ifTrue_any _ _ _).mono ?_; rintro e w' ⟨rfl, rfl⟩)
    all_goals go_ret
    all_goals refine ⟨ret_int ?_, below_drewN ((Below.refl _ _).alloc (Nat.le_refl _) _) _⟩
    all_goals try simp only [beq_iff_eq, beq_eq_false_iff_ne, bne_iff_ne, bne_eq_false_iff_eq, ne_eq] at *
    all_goals (simp [resTy, ar, ty1, ty2, ty3, *]; try omega)

theorem getD_of (kinds : List Int) (i : Nat) (h : i < kinds.length) : kinds[i]? = some (kinds.getD i 0) := by
  rw [List.getD_eq_getElem?_getD, List.getElem?_eq_getElem h]; rfl
set_option maxHeartbeats 4000000 in
theorem leaf_any (ev kv : Value) (kinds : List Int) (op x : Int) (w : World) (hk : Hid (Ints .i64 w kv kinds)) (h1 : 1 ≤ op) (h2 : op ≤ 17) (hx : op = 5 ∨ op = 12 → 0 ≤ x ∧ x < kinds.length) :
    Calls Try.prog 38 #[.agg #[ev, kv], .agg #[.int .i64 op, .int .i64 x]] w fun e w' => e = .returned (.int .i64 (leafTy kinds (op, x))) ∧ Below w.heap.size w w' := by
  obtain ⟨a, cap, rfl, i1, i2, i3, i4⟩ := hk.out.open
  have HC := Lib.hid i4
  have HX := Lib.hid hx
  clear i4 hx i3
  have hop : op = 1 ∨ op = 2 ∨ op = 3 ∨ op = 4 ∨ op = 5 ∨ op = 6 ∨ op = 7 ∨ op = 8 ∨ op = 9 ∨ op = 10 ∨ op = 11 ∨ op = 12 ∨ op = 13 ∨ op = 14 ∨ op = 15 ∨ op = 16 ∨ op = 17 := by omega
  rcases hop with rfl | rfl | rfl | rfl | rfl | rfl | rfl | rfl | rfl | rfl | rfl | rfl | rfl | rfl | rfl | rfl | rfl
  all_goals clear h1 h2
  case inr.inr.inr.inr.inl =>
    obtain ⟨x0, x1⟩ := HX.out (by omega)
    obtain ⟨x, rfl⟩ := Int.eq_ofNat_of_zero_le x0
    obtain ⟨g, o, rfl, hg, hc⟩ := HC.out (by omega)
    have c0 := hc x _ (getD_of kinds x (by omega))
    have hxl : x < kinds.length := by omega
    have HL := Lib.hid (show leafTy kinds (5, (x : Int)) = kinds.getD x 0 by simp [leafTy])
    clear hc x0 x1
    generalize kinds.getD x 0 = kx at *
    go_enter Try.func38, Try.ntmps38
    go_wp2_with fail
    go_ret
    refine ⟨ret_int HL.out.symm, ?_⟩
    repeat (first | exact Below.refl _ _ | refine Below.alloc ?_ (by simp) _)
  case inr.inr.inr.inr.inr.inr.inr.inr.inr.inr.inr.inl =>
    obtain ⟨x0, x1⟩ := HX.out (by omega)
    obtain ⟨x, rfl⟩ := Int.eq_ofNat_of_zero_le x0
    obtain ⟨g, o, rfl, hg, hc⟩ := HC.out (by omega)
    have c0 := hc x _ (getD_of kinds x (by omega))
    have hxl : x < kinds.length := by omega
    have HL := Lib.hid (show leafTy kinds (12, (x : Int)) = kinds.getD x 0 by simp [leafTy])
    clear hc x0 x1
    generalize kinds.getD x 0 = kx at *
    go_enter Try.func38, Try.ntmps38
    go_wp2_with fail
    go_ret
    refine ⟨ret_int HL.out.symm, ?_⟩
    repeat (first | exact Below.refl _ _ | refine Below.alloc ?_ (by simp) _)
  all_goals
    go_enter Try.func38, Try.ntmps38
    go_wp2_with fail
    go_ret
    refine ⟨ret_int (by simp [leafTy]), ?_⟩
    repeat (first | exact Below.refl _ _ | refine Below.alloc ?_ (by simp) _)
set_option maxHeartbeats 4000000 in
theorem rsingle_any (op a : Int) (w : World) (h1 : 18 ≤ op) (h2 : op ≤ 29) :
    Calls Try.prog 52 #[.int .i64 op, .int .i64 a] w fun e w' => e = .returned (.int .i64 (ty1 op a)) ∧ w = w' := by
  have hop : op = 18 ∨ op = 19 ∨ op = 20 ∨ op = 21 ∨ op = 22 ∨ op = 23 ∨ op = 24 ∨ op = 25 ∨ op = 26 ∨ op = 27 ∨ op = 28 ∨ op = 29 := by omega
  rcases hop with rfl | rfl | rfl | rfl | rfl | rfl | rfl | rfl | rfl | rfl | rfl | rfl
  all_goals
    clear h1 h2
    go_enter Try.func52, Try.ntmps52
    go_wp2
    all_goals go_ret
    all_goals refine ⟨ret_int ?_, rfl⟩
    all_goals try simp only [bne_iff_ne, bne_eq_false_iff_eq, ne_eq] at *
    all_goals (simp [ty1, *]; try omega)
set_option maxHeartbeats 4000000 in
theorem rdouble_any (op a b : Int) (w : World) (h1 : 30 ≤ op) (h2 : op ≤ 42) :
    Calls Try.prog 54 #[.int .i64 op, .int .i64 a, .int .i64 b] w fun e w' => e = .returned (.int .i64 (ty2 op a b)) ∧ w = w' := by
  have hop : op = 30 ∨ op = 31 ∨ op = 32 ∨ op = 33 ∨ op = 34 ∨ op = 35 ∨ op = 36 ∨ op = 37 ∨ op = 38 ∨ op = 39 ∨ op = 40 ∨ op = 41 ∨ op = 42 := by omega
  rcases hop with rfl | rfl | rfl | rfl | rfl | rfl | rfl | rfl | rfl | rfl | rfl | rfl | rfl
  all_goals
    clear h1 h2
    go_enter Try.func54, Try.ntmps54
    go_wp2
    all_goals go_ret
    all_goals refine ⟨ret_int ?_, rfl⟩
    all_goals try simp only [beq_iff_eq, beq_eq_false_iff_ne, bne_iff_ne, bne_eq_false_iff_eq, ne_eq] at *
    all_goals (simp [ty2, *]; try omega)

set_option maxHeartbeats 4000000 in
theorem rleaf_any (kv : Value) (kinds : List Int) (op x : Int) (bound : Bool) (w : World) (hk : Hid (Ints .i64 w kv kinds)) (h1 : 1 ≤ op) (h2 : op ≤ 17) (hx : op = 5 ∨ op = 12 → 0 ≤ x ∧ x < kinds.length) :
    Calls Try.prog 51 #[.agg #[.int .i64 op, .int .i64 x], kv, .bool bound] w fun e w' => e = .returned (.int .i64 (if nearB op && !bound then 0 else leafTy kinds (op, x))) ∧ Below w.heap.size w w' := by
  obtain ⟨a, cap, rfl, i1, i2, i3, i4⟩ := hk.out.open
  have HC := Lib.hid i4
  have HX := Lib.hid hx
  clear i4 hx i3
  have hop : op = 1 ∨ op = 2 ∨ op = 3 ∨ op = 4 ∨ op = 5 ∨ op = 6 ∨ op = 7 ∨ op = 8 ∨ op = 9 ∨ op = 10 ∨ op = 11 ∨ op = 12 ∨ op = 13 ∨ op = 14 ∨ op = 15 ∨ op = 16 ∨ op = 17 := by omega
  rcases hop with rfl | rfl | rfl | rfl | rfl | rfl | rfl | rfl | rfl | rfl | rfl | rfl | rfl | rfl | rfl | rfl | rfl
  all_goals clear h1 h2
  case inr.inr.inr.inr.inl =>
    obtain ⟨x0, x1⟩ := HX.out (by omega)
    obtain ⟨x, rfl⟩ := Int.eq_ofNat_of_zero_le x0
    obtain ⟨g, o, rfl, hg, hc⟩ := HC.out (by omega)
    have c0 := hc x _ (getD_of kinds x (by omega))
    have hxl : x < kinds.length := by omega
    have HL := Lib.hid (show leafTy kinds (5, (x : Int)) = kinds.getD x 0 by simp [leafTy])
    clear hc x0 x1
    generalize kinds.getD x 0 = kx at *
    cases bound
    all_goals
      go_enter Try.func51, Try.ntmps51
      go_wp2_with fail
      go_ret
      refine ⟨ret_int (by simp [HL.out]), ?_⟩
      repeat (first | exact Below.refl _ _ | refine Below.alloc ?_ (by simp) _)
  case inr.inr.inr.inr.inr.inr.inr.inr.inr.inr.inr.inl =>
    obtain ⟨x0, x1⟩ := HX.out (by omega)
    obtain ⟨x, rfl⟩ := Int.eq_ofNat_of_zero_le x0
    obtain ⟨g, o, rfl, hg, hc⟩ := HC.out (by omega)
    have c0 := hc x _ (getD_of kinds x (by omega))
    have hxl : x < kinds.length := by omega
    have HL := Lib.hid (show leafTy kinds (12, (x : Int)) = kinds.getD x 0 by simp [leafTy])
    clear hc x0 x1
    generalize kinds.getD x 0 = kx at *
    cases bound
    all_goals
      go_enter Try.func51, Try.ntmps51
      go_wp2_with fail
      go_ret
      refine ⟨ret_int (by simp [HL.out]), ?_⟩
      repeat (first | exact Below.refl _ _ | refine Below.alloc ?_ (by simp) _)
  all_goals
    cases bound
    all_goals
      go_enter Try.func51, Try.ntmps51
      go_wp2_with fail
      go_ret
      refine ⟨ret_int (by simp [leafTy]), ?_⟩
      repeat (first | exact Below.refl _ _ | refine Below.alloc ?_ (by simp) _)
end Go.Proofs.Ytogennegbihceaa
