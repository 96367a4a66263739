/- awake; the walks over the laws TypesFind and TypesKeepWithABound. -/
import Derived.Test.YtogennegbihceaaTypeWalk5
import Derived.Test.YtogennegbihceaaOpenTerm
set_option maxRecDepth 100000
namespace Go.Proofs.Ytogennegbihceaa
open Go.RowKit

theorem of_aw1 : ofF [(23, 0), (35, 0), (12, 0), (17, 0)] [3] false = (3, 0) := by decide +kernel
theorem of_aw2 : ofF [(35, 0), (12, 0), (17, 0)] [3] false = (0, 6) := by decide +kernel
def exCells : List Value := [.int .i64 23, .int .i64 0, .int .i64 35, .int .i64 0, .int .i64 12, .int .i64 0, .int .i64 17, .int .i64 0]
theorem example_any (w : World) : Calls Try.prog 12 #[] w fun e w' => e = .returned (.slice (some ⟨w.heap.size, 0, none⟩) 4 4) ∧ w.alloc (.cells exCells.toArray 57) = w' := by
  go_enter Try.func12, Try.ntmps12
  go_wp2
  go_ret
  exact ⟨rfl, rfl⟩
theorem of_is (ev kv : Value) (l : List Tm) (kinds : List Int) (bound : Bool) (a b : Int) (w : World) (hl : l.length ≤ 1000) (hv : Terms w ev l) (hk : Ints .i64 w kv kinds) (h : ofF l kinds bound = (a, b)) :
    Calls Try.prog 11 #[ev, kv, .bool bound] w fun e w' => e = .returned (.tuple #[.int .i64 a, .int .i64 b]) ∧ Below w.heap.size w w' :=
  (of_any ev kv l kinds bound w hl hv hk).mono fun e w' ⟨he, hb⟩ => ⟨by rw [he, h], hb⟩
theorem kinds_new (W : World) (k : Int) : Ints .i64 (W.alloc (.cells #[.int .i64 k] 3)) (.slice (some ⟨W.heap.size, 0, none⟩) 1 1) [k] := row_alloc W [.int .i64 k] _ 1 1 (by omega) rfl

set_option maxHeartbeats 1000000 in
theorem awake_any (w : World) : Calls Try.prog 6 #[] w fun e w' => e = .returned (.bool true) ∧ Below w.heap.size w w' := by
  go_enter Try.func6, Try.ntmps6
  go_wp2_with (go_at_call 12; refine (example_any _).mono ?_; rintro e w1 ⟨rfl, rfl⟩)
  refine (of_is _ _ [(23, 0), (35, 0), (12, 0), (17, 0)] [3] false 3 0 _ (by simp) (by exact Row.below (row_alloc w exCells _ 2 4 (by omega) rfl) ((Below.refl _ _).alloc (Nat.le_refl _) _)) (by have := kinds_new (w.alloc (.cells exCells.toArray 57)) 3; simpa using this) of_aw1).mono ?_
  rintro e w2 ⟨rfl, hb2⟩
  go_wp2_with (go_at_call 12; refine (example_any _).mono ?_; rintro e w1 ⟨rfl, rfl⟩)
  refine (of_is _ _ [(35, 0), (12, 0), (17, 0)] [3] false 0 6 _ (by simp) (by exact Row.below (row_alloc_off w2 exCells (exCells.drop 2) _ 2 3 3 2 (by omega) (by omega) rfl (fun j u h => by rw [List.getElem?_drop] at h; exact h)) ((Below.refl _ _).alloc (Nat.le_refl _) _)) (by have := kinds_new (w2.alloc (.cells exCells.toArray 57)) 3; simpa using this) of_aw2).mono ?_
  rintro e w3 ⟨rfl, hb3⟩
  go_wp2_with fail
  go_ret
  have s2 := hb2.size
  simp at s2
  have b2 : Below w.heap.size w w2 := ((((Below.refl _ _).alloc (Nat.le_refl _) _).alloc (by simp) _).trans (hb2.mono (by simp; omega)))
  exact ⟨rfl, (((b2.alloc (by omega) _).alloc (by simp; omega) _).trans (hb3.mono (by simp; omega)))⟩

theorem light_any (v : Value) (l : List Tm) (w : World) (hv : Hid (Terms w v l)) : Calls Try.prog 9 #[v] w fun e w' => e = .returned (.bool (decide (l.length ≤ 250))) ∧ w = w' := by
  obtain ⟨a0, cap0, rfl, h1, h2, h3⟩ := hv.out.open
  clear h3
  go_enter Try.func9, Try.ntmps9
  go_wp2
  go_ret
  exact ⟨ret_bool (by simp; omega), rfl⟩

end Go.Proofs.Ytogennegbihceaa
