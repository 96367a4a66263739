/- awake; the walks over the laws TypesFind and TypesKeepWithABound. -/
import Derived.Test.YtdjhkjidakimhaaTypeWalk5
import Derived.Test.YtdjhkjidakimhaaOpenTerm
namespace Go.Proofs.Ytdjhkjidakimhaa
open Go.RowKit

theorem of_aw1 : ofF [(23, 0), (35, 0), (12, 0), (17, 0)] [3] false = (3, 0) := by decide +kernel
theorem of_aw2 : ofF [(35, 0), (12, 0), (17, 0)] [3] false = (0, 6) := by decide +kernel
def exCells : List Value := [.int .i64 23, .int .i64 0, .int .i64 35, .int .i64 0, .int .i64 12, .int .i64 0, .int .i64 17, .int .i64 0]
theorem example_any (w : World) : Calls Try.prog 27 #[] w fun e w' => e = .returned (.slice (some ⟨w.heap.size, 0, none⟩) 4 4) ∧ w.alloc (.cells exCells.toArray 32) = w' := by
  go_enter Try.func27, Try.ntmps27
  go_wp2
  go_ret
  exact ⟨rfl, rfl⟩
theorem of_is (ev kv : Value) (l : List Tm) (kinds : List Int) (bound : Bool) (a b : Int) (w : World) (hl : l.length ≤ 1000) (hv : Terms w ev l) (hk : Ints .i64 w kv kinds) (h : ofF l kinds bound = (a, b)) :
    Calls Try.prog 13 #[ev, kv, .bool bound] w fun e w' => e = .returned (.tuple #[.int .i64 a, .int .i64 b]) ∧ Below w.heap.size w w' :=
  (of_any ev kv l kinds bound w hl hv hk).mono fun e w' ⟨he, hb⟩ => ⟨by rw [he, h], hb⟩
theorem rof_is (ev kv : Value) (l : List Tm) (kinds : List Int) (bound : Bool) (a b : Int) (w : World) (hl : l.length ≤ 1000) (hv : Terms w ev l) (hk : Ints .i64 w kv kinds) (h : ofF l kinds bound = (a, b)) :
    Calls Try.prog 14 #[ev, kv, .bool bound] w fun e w' => e = .returned (.tuple #[.int .i64 a, .int .i64 b]) ∧ Below w.heap.size w w' :=
  (rof_any ev kv l kinds bound w hl hv hk).mono fun e w' ⟨he, hb⟩ => ⟨by rw [he, h], hb⟩
theorem kinds_new (W : World) (k : Int) : Ints .i64 (W.alloc (.cells #[.int .i64 k] 3)) (.slice (some ⟨W.heap.size, 0, none⟩) 1 1) [k] := row_alloc W [.int .i64 k] _ 1 1 (by omega) rfl

set_option maxHeartbeats 1000000 in
theorem awake_any (w : World) : Calls Try.prog 12 #[] w fun e w' => e = .returned (.bool true) ∧ Below w.heap.size w w' := by
  go_enter Try.func12, Try.ntmps12
  go_wp2_with (go_at_call 27; refine (example_any _).mono ?_; rintro e w1 ⟨rfl, rfl⟩)
  refine (of_is _ _ [(23, 0), (35, 0), (12, 0), (17, 0)] [3] false 3 0 _ (by simp) (by exact Row.below (row_alloc w exCells _ 2 4 (by omega) rfl) ((Below.refl _ _).alloc (Nat.le_refl _) _)) (by have := kinds_new (w.alloc (.cells exCells.toArray 32)) 3; simpa using this) of_aw1).mono ?_
  rintro e w2 ⟨rfl, hb2⟩
  go_wp2_with (go_at_call 27; refine (example_any _).mono ?_; rintro e w1 ⟨rfl, rfl⟩)
  refine (of_is _ _ [(35, 0), (12, 0), (17, 0)] [3] false 0 6 _ (by simp) (by exact Row.below (row_alloc_off w2 exCells (exCells.drop 2) _ 2 3 3 2 (by omega) (by omega) rfl (fun j u h => by rw [List.getElem?_drop] at h; exact h)) ((Below.refl _ _).alloc (Nat.le_refl _) _)) (by have := kinds_new (w2.alloc (.cells exCells.toArray 32)) 3; simpa using this) of_aw2).mono ?_
  rintro e w3 ⟨rfl, hb3⟩
  go_wp2_with fail
  go_ret
  have s2 := hb2.size
  simp at s2
  have b2 : Below w.heap.size w w2 := ((((Below.refl _ _).alloc (Nat.le_refl _) _).alloc (by simp) _).trans (hb2.mono (by simp; omega)))
  exact ⟨rfl, (((b2.alloc (by omega) _).alloc (by simp; omega) _).trans (hb3.mono (by simp; omega)))⟩

theorem light_any (v : Value) (l : List Tm) (w : World) (hv : Hid (Terms w v l)) : Calls Try.prog 11 #[v] w fun e w' => e = .returned (.bool (decide (l.length ≤ 250))) ∧ w = w' := by
  obtain ⟨a0, cap0, rfl, h1, h2, h3⟩ := hv.out.open
  clear h3
  go_enter Try.func11, Try.ntmps11
  go_wp2
  go_ret
  exact ⟨ret_bool (by simp; omega), rfl⟩

set_option maxHeartbeats 1000000 in
theorem walk_TypesFind (ev : Value) (l : List Tm) (kv : Value) (kinds : List Int) (bound : Bool) (w : World) (hv0 : Terms w ev l ∧ ∀ t ∈ l, TermIn t) (hk0 : Ints .i64 w kv kinds ∧ ∀ x ∈ kinds, In64 x) :
    Calls Try.prog 3 #[ev, kv, .bool bound] w fun e w' => e = .returned (.bool true) ∧ Below w.heap.size w w' := by
  obtain ⟨hv, _⟩ := hv0
  obtain ⟨hk, _⟩ := hk0
  have HV := Lib.hid hv
  have HK := Lib.hid hk
  obtain ⟨a0, cap0, rfl, h1, h2, h3, h4⟩ := hk.open
  clear h3 h4 hv hk
  by_cases hl : l.length ≤ 250
  · have b1 : decide (l.length ≤ 250) = true := by simp; omega
    by_cases h10 : 10 < kinds.length
    · go_enter Try.func3, Try.ntmps3
      go_wp2_with (first | (go_at_call 11; refine (light_any _ l _ HV).mono ?_; rintro e w1 ⟨rfl, rfl⟩) | (go_at_call 12; refine (awake_any _).mono ?_; rintro e w1 ⟨rfl, hb1⟩))
      go_ret
      exact ⟨rfl, hb1⟩
    · obtain ⟨a, b, hab⟩ : ∃ a b, ofF l kinds bound = (a, b) := ⟨_, _, rfl⟩
      have H := Lib.hid hab
      have e1 : (a == a) = true := by simp
      have e2 : (b == b) = true := by simp
      clear hab
      go_enter Try.func3, Try.ntmps3
      go_wp2_with (first | (go_at_call 11; refine (light_any _ l _ HV).mono ?_; rintro e w1 ⟨rfl, rfl⟩) | (go_at_call 13; refine (of_is _ _ l kinds bound a b _ (by omega) HV.out HK.out H.out).mono ?_; rintro e w1 ⟨rfl, hb1⟩) | (go_at_call 14; refine (rof_is _ _ l kinds bound a b _ (by omega) (HV.out.below hb1) (HK.out.below hb1) H.out).mono ?_; rintro e w2 ⟨rfl, hb2⟩) | (go_at_call 12; refine (awake_any _).mono ?_; rintro e w3 ⟨rfl, hb3⟩))
      go_ret
      exact ⟨rfl, bthen (bthen hb1 hb2) hb3⟩
  · have b1 : decide (l.length ≤ 250) = false := by simp; omega
    go_enter Try.func3, Try.ntmps3
    go_wp2_with (first | (go_at_call 11; refine (light_any _ l _ HV).mono ?_; rintro e w1 ⟨rfl, rfl⟩) | (go_at_call 12; refine (awake_any _).mono ?_; rintro e w1 ⟨rfl, hb1⟩))
    go_ret
    exact ⟨rfl, hb1⟩
set_option maxHeartbeats 1000000 in
theorem walk_TypesKeepWithABound (ev : Value) (l : List Tm) (kv : Value) (kinds : List Int) (w : World) (hv0 : Terms w ev l ∧ ∀ t ∈ l, TermIn t) (hk0 : Ints .i64 w kv kinds ∧ ∀ x ∈ kinds, In64 x) :
    Calls Try.prog 5 #[ev, kv] w fun e w' => e = .returned (.bool true) ∧ Below w.heap.size w w' := by
  obtain ⟨hv, _⟩ := hv0
  obtain ⟨hk, _⟩ := hk0
  have HV := Lib.hid hv
  have HK := Lib.hid hk
  obtain ⟨a0, cap0, rfl, h1, h2, h3, h4⟩ := hk.open
  clear h3 h4 hv hk
  by_cases hl : l.length ≤ 250
  · have b1 : decide (l.length ≤ 250) = true := by simp; omega
    by_cases h10 : 10 < kinds.length
    · go_enter Try.func5, Try.ntmps5
      go_wp2_with (first | (go_at_call 11; refine (light_any _ l _ HV).mono ?_; rintro e w1 ⟨rfl, rfl⟩) | (go_at_call 12; refine (awake_any _).mono ?_; rintro e w1 ⟨rfl, hb1⟩))
      go_ret
      exact ⟨rfl, hb1⟩
    · obtain ⟨q1, q2⟩ := ofF_keep l kinds
      obtain ⟨a, b, hab⟩ : ∃ a b, ofF l kinds false = (a, b) := ⟨_, _, rfl⟩
      obtain ⟨c, d, hcd⟩ : ∃ a b, ofF l kinds true = (a, b) := ⟨_, _, rfl⟩
      rw [hab, hcd] at q1 q2
      have H1 := Lib.hid hab
      have H2 := Lib.hid hcd
      clear hab hcd
      by_cases hb : b = 0
      · have hq := q1 hb
        simp only [Prod.mk.injEq] at hq
        obtain ⟨rfl, rfl⟩ := hq
        subst hb
        have e1 : (c == c) = true := by simp
        clear q1 q2
        go_enter Try.func5, Try.ntmps5
        go_wp2_with (go_at_call 11; refine (light_any _ l _ HV).mono ?_; rintro e w1 ⟨rfl, rfl⟩)
        refine (of_is _ _ l kinds false _ _ _ (by omega) HV.out HK.out H1.out).mono ?_
        rintro e w1 ⟨rfl, hb1⟩
        go_wp2_with fail
        refine (of_is _ _ l kinds true _ _ _ (by omega) (HV.out.below hb1) (HK.out.below hb1) H2.out).mono ?_
        rintro e w2 ⟨rfl, hb2⟩
        go_wp2_with (go_at_call 12; refine (awake_any _).mono ?_; rintro e w3 ⟨rfl, hb3⟩)
        go_ret
        exact ⟨rfl, bthen (bthen hb1 hb2) hb3⟩
      · obtain ⟨rfl, hq⟩ := q2 hb
        have e1 : (b == 0) = false := by simpa using hb
        have hq' : (b == 6) = true ∨ ((b == 6) = false ∧ (b == d) = true) := by
          by_cases h6 : b = 6
          · exact .inl (by simpa using h6)
          · exact .inr ⟨by simpa using h6, by rcases hq with h | h; exact absurd h h6; simpa using h⟩
        clear q1 q2 hq
        rcases hq' with e2 | ⟨e2, e3⟩
        all_goals
          go_enter Try.func5, Try.ntmps5
          go_wp2_with (go_at_call 11; refine (light_any _ l _ HV).mono ?_; rintro e w1 ⟨rfl, rfl⟩)
          refine (of_is _ _ l kinds false _ _ _ (by omega) HV.out HK.out H1.out).mono ?_
          rintro e w1 ⟨rfl, hb1⟩
          go_wp2_with fail
          refine (of_is _ _ l kinds true _ _ _ (by omega) (HV.out.below hb1) (HK.out.below hb1) H2.out).mono ?_
          rintro e w2 ⟨rfl, hb2⟩
          go_wp2_with (go_at_call 12; refine (awake_any _).mono ?_; rintro e w3 ⟨rfl, hb3⟩)
          go_ret
          exact ⟨rfl, bthen (bthen hb1 hb2) hb3⟩
  · have b1 : decide (l.length ≤ 250) = false := by simp; omega
    go_enter Try.func5, Try.ntmps5
    go_wp2_with (first | (go_at_call 11; refine (light_any _ l _ HV).mono ?_; rintro e w1 ⟨rfl, rfl⟩) | (go_at_call 12; refine (awake_any _).mono ?_; rintro e w1 ⟨rfl, hb1⟩))
    go_ret
    exact ⟨rfl, hb1⟩
end Go.Proofs.Ytdjhkjidakimhaa
