/- The walks over the terms' small functions: Arity, Aggregate, Near, argument, of the program and of the reference. -/
import Derived.Test.YtogennegbihceaaRows
import Derived.Test.YtogennegbihceaaRow
import Derived.Test.YtogennegbihceaaTypeMath
import Derived.WalkKit
import Derived.WalkSpells
import Derived.WalkLawsBesides
import Derived.Lib.Hide
namespace Go.Proofs.Ytogennegbihceaa
open Go.RowKit

set_option maxHeartbeats 400000 in
theorem arity_any (op : Int) (w : World) : Calls Try.prog 36 #[.int .i64 op] w fun e w' => e = .returned (.int .i64 (ar op)) ∧ w = w' := by
  go_enter Try.func36, Try.ntmps36
  go_wp2
  all_goals go_ret
  all_goals exact ⟨ret_int (by unfold ar; (repeat' split) <;> omega), rfl⟩
set_option maxHeartbeats 400000 in
theorem aggregate_any (op : Int) (w : World) : Calls Try.prog 39 #[.int .i64 op] w fun e w' => e = .returned (.bool (aggB op)) ∧ w = w' := by
  go_enter Try.func39, Try.ntmps39
  go_wp2
  all_goals go_ret
  all_goals exact ⟨ret_bool (by rw [Bool.eq_iff_iff]; simp [aggB]; omega), rfl⟩
set_option maxHeartbeats 400000 in
theorem near_any (op : Int) (w : World) : Calls Try.prog 37 #[.int .i64 op] w fun e w' => e = .returned (.bool (nearB op)) ∧ w = w' := by
  go_enter Try.func37, Try.ntmps37
  go_wp2
  all_goals go_ret
  all_goals exact ⟨ret_bool (by rw [Bool.eq_iff_iff]; simp [nearB]; omega), rfl⟩
set_option maxHeartbeats 400000 in
theorem rarity_any (op : Int) (w : World) : Calls Try.prog 50 #[.int .i64 op] w fun e w' => e = .returned (.int .i64 (ar op)) ∧ w = w' := by
  go_enter Try.func50, Try.ntmps50
  go_wp2
  all_goals go_ret
  all_goals refine ⟨ret_int ?_, rfl⟩
  all_goals try simp only [beq_iff_eq, beq_eq_false_iff_ne, ne_eq] at *
  all_goals (unfold ar; (repeat' split) <;> omega)
set_option maxHeartbeats 400000 in
theorem raggregate_any (op : Int) (w : World) : Calls Try.prog 53 #[.int .i64 op] w fun e w' => e = .returned (.bool (aggB op)) ∧ w = w' := by
  go_enter Try.func53, Try.ntmps53
  go_wp2
  all_goals go_ret
  all_goals exact ⟨ret_bool (by rw [Bool.eq_iff_iff]; simp [aggB]; omega), rfl⟩

/-- A slice of terms. -/
def Terms (w : World) (v : Value) (l : List Tm) : Prop := Row w v 2 l.length (l.flatMap fun t => [.int .i64 t.1, .int .i64 t.2])
theorem Terms.below {w w' : World} {v : Value} {l : List Tm} (h : Terms w v l) (hb : Below w.heap.size w w') : Terms w' v l := Row.below h hb
theorem Terms.open {w : World} {v : Value} {l : List Tm} (h : Terms w v l) : ∃ a cap, v = .slice a l.length cap ∧ l.length ≤ cap ∧ cap ≤ 9223372036854775807 ∧
    (0 < l.length → ∃ g o, a = some ⟨g, o, none⟩ ∧ g < w.heap.size ∧ ∀ i t, l[i]? = some t → w.cell? ⟨g, o + i * 2, none⟩ = some (.int .i64 t.1) ∧ w.cell? ⟨g, o + i * 2 + 1, none⟩ = some (.int .i64 t.2)) := by
  obtain ⟨a, cap, hv, h1, h2, h3, h4⟩ := Row.open h
  refine ⟨a, cap, hv, h1, h2, fun hn => ?_⟩
  obtain ⟨g, o, ha, hg, hc⟩ := h4 hn
  exact ⟨g, o, ha, hg, fun i t ht => ⟨hc _ _ (flat_get _ 2 (fun _ => rfl) l i 0 t _ ht rfl), hc _ _ (flat_get _ 2 (fun _ => rfl) l i 1 t _ ht rfl)⟩⟩

/-- The place behind the next w expressions from a place on; -1 if there are none. -/
def endR (w k : Nat) (l : List Tm) : Int := match endN w (l.drop k) with | none => -1 | some n => (k : Int) + n
theorem endR_none (m k : Nat) (l : List Tm) (hm : 1 ≤ m) (h : l.length ≤ k) : endR m k l = -1 := by
  obtain ⟨m, rfl⟩ : ∃ q, m = q + 1 := ⟨m - 1, by omega⟩
  unfold endR; rw [List.drop_eq_nil_of_le h, endN_nil]
theorem endR_bad (m k : Nat) (l : List Tm) (hm : 1 ≤ m) (h : k < l.length) (hn : ar l[k].1 < 0) : endR m k l = -1 := by
  obtain ⟨m, rfl⟩ : ∃ q, m = q + 1 := ⟨m - 1, by omega⟩
  unfold endR; rw [List.drop_eq_getElem_cons h, endN_bad _ _ _ hn]
theorem endR_step (m k : Nat) (l : List Tm) (hm : 1 ≤ m) (h : k < l.length) (hn : ¬ ar l[k].1 < 0) : endR m k l = endR (m + (ar l[k].1).toNat - 1) (k + 1) l := by
  obtain ⟨m, rfl⟩ : ∃ q, m = q + 1 := ⟨m - 1, by omega⟩
  unfold endR; rw [List.drop_eq_getElem_cons h, endN_step _ _ _ hn, show m + 1 + (ar l[k].1).toNat - 1 = m + (ar l[k].1).toNat by omega]
  cases endN (m + (ar l[k].1).toNat) (l.drop (k + 1)) with
  | none => rfl
  | some n => simp; omega
theorem endR_done (m k : Nat) (l : List Tm) (hm : 1 ≤ m) (h : k < l.length) (hn : ¬ ar l[k].1 < 0) (hz : (m : Int) + (ar l[k].1 - 1) = 0) : endR m k l = k + 1 := by
  rw [endR_step m k l hm h hn, show m + (ar l[k].1).toNat - 1 = 0 by omega]
  unfold endR; rw [endN_zero]; simp

set_option maxHeartbeats 1000000 in
theorem argument_any (t : Tm) (vars : Int) (w : World) : Calls Try.prog 33 #[.agg #[.int .i64 t.1, .int .i64 t.2], .int .i64 vars] w fun e w' => e = .returned (.bool (argB vars t)) ∧ Below w.heap.size w w' := by
  obtain ⟨op, x⟩ := t
  have hcases : (op == 1) = true ∨ (op == 1) = false ∧ ((op == 5) = true ∨ (op == 5) = false ∧ ((op == 12) = true ∨ (op == 12) = false)) := by
    cases (op == 1) <;> cases (op == 5) <;> cases (op == 12) <;> simp
  rcases hcases with q0 | ⟨q0, q1 | ⟨q1, q2 | q2⟩⟩
  all_goals
    go_enter Try.func33, Try.ntmps33
    go_wp2
    all_goals go_ret
    all_goals refine ⟨ret_bool ?_, (Below.refl _ _).alloc (Nat.le_refl _) _⟩
    all_goals simp only [beq_iff_eq, beq_eq_false_iff_ne, ne_eq] at *
    all_goals rw [Bool.eq_iff_iff]
    all_goals simp [argB, *]
    all_goals try omega

set_option maxHeartbeats 1000000 in
theorem rargument_any (t : Tm) (vars : Int) (w : World) : Calls Try.prog 49 #[.agg #[.int .i64 t.1, .int .i64 t.2], .int .i64 vars] w fun e w' => e = .returned (.bool (argB vars t)) ∧ Below w.heap.size w w' := by
  obtain ⟨op, x⟩ := t
  have hcases : (op == 1) = true ∨ (op == 1) = false ∧ ((op == 5) = true ∨ (op == 5) = false ∧ ((op == 12) = true ∨ (op == 12) = false)) := by
    cases (op == 1) <;> cases (op == 5) <;> cases (op == 12) <;> simp
  rcases hcases with q0 | ⟨q0, q1 | ⟨q1, q2 | q2⟩⟩
  all_goals
    go_enter Try.func49, Try.ntmps49
    go_wp2
    all_goals go_ret
    all_goals refine ⟨ret_bool ?_, (Below.refl _ _).alloc (Nat.le_refl _) _⟩
    all_goals simp only [beq_iff_eq, beq_eq_false_iff_ne, ne_eq] at *
    all_goals rw [Bool.eq_iff_iff]
    all_goals simp [argB, *]
    all_goals try omega

set_option maxHeartbeats 1000000 in
theorem end_any_in (v : Value) (l : List Tm) (at_ : Nat) (w : World) (hl : l.length ≤ 1000) (hv : Hid (Terms w v l)) (ha : at_ < l.length) :
    Calls Try.prog 32 #[v, .int .i64 at_] w fun e w' => e = .returned (.int .i64 (endR 1 at_ l)) ∧ w = w' := by
  obtain ⟨a, cap, rfl, h1, h2, h3⟩ := hv.out.open
  obtain ⟨g, o, rfl, hg, hc⟩ := h3 (by omega)
  have HC := Lib.hid hc
  have b1 : decide ((at_ : Int) < 0) = false := by simp
  have b2 : decide (l.length ≤ at_) = false := by simp; omega
  clear hc h3
  go_enter Try.func32, Try.ntmps32
  go_wp2
  go_loop [1, 5, 6] (fun i x _ => ∃ k m : Nat, k ≤ l.length ∧ 1 ≤ m ∧ m ≤ 2 * k + 1 ∧ i = .int .i64 k ∧ x = .int .i64 m ∧ Hid (endR 1 at_ l = endR m k l)) (fun i _ _ => l.length - (intOf i).toNat)
  case atStart => exact ⟨at_, 1, by omega, by omega, by omega, rfl, rfl, rfl⟩
  case round =>
    obtain ⟨k, m, hk, hm1, hm2, rfl, rfl, he⟩ := hrel
    by_cases hlt : k < l.length
    · obtain ⟨c0, c1⟩ := HC.out k _ (List.getElem?_eq_getElem hlt)
      have hb := ar_bd l[k].1
      have hb1 := hb.1
      have hb2 := hb.2
      clear hb
      have HD := Lib.hid (List.drop_eq_getElem_cons hlt)
      by_cases hneg : ar l[k].1 < 0
      · go_wp2_with (go_at_call 36; refine (arity_any _ _).mono ?_; rintro e w' ⟨rfl, rfl⟩)
        go_ret
        exact ⟨ret_int (by rw [he.out, endR_bad m k l hm1 hlt hneg]), rfl⟩
      · by_cases hz : (m : Int) + (ar l[k].1 - 1) = 0
        · have hz' : ((m : Int) + (ar l[k].1 - 1) == 0) = true := by simp; omega
          have HZ := Lib.hid hz
          clear hz
          go_wp2_with (go_at_call 36; refine (arity_any _ _).mono ?_; rintro e w' ⟨rfl, rfl⟩)
          go_ret
          exact ⟨ret_int (by rw [he.out, endR_done m k l hm1 hlt (by omega) HZ.out]), rfl⟩
        · have hz' : ((m : Int) + (ar l[k].1 - 1) == 0) = false := by simp; omega
          go_wp2_with (go_at_call 36; refine (arity_any _ _).mono ?_; rintro e w' ⟨rfl, rfl⟩)
          exact ⟨⟨k + 1, m + (ar l[k].1).toNat - 1, by omega, by omega, by omega, by go_num, by congr 1; omega, he.out.trans (endR_step m k l hm1 hlt (by omega))⟩, by simp [intOf]; omega⟩
    · go_wp2
      go_ret
      exact ⟨ret_int (by rw [he.out, endR_none m k l hm1 (by omega)]), rfl⟩

set_option maxHeartbeats 1000000 in
theorem rend_any_in (v : Value) (l : List Tm) (at_ : Nat) (w : World) (hl : l.length ≤ 1000) (hv : Hid (Terms w v l)) (ha : at_ < l.length) :
    Calls Try.prog 64 #[v, .int .i64 at_] w fun e w' => e = .returned (.int .i64 (endR 1 at_ l)) ∧ w = w' := by
  obtain ⟨a, cap, rfl, h1, h2, h3⟩ := hv.out.open
  obtain ⟨g, o, rfl, hg, hc⟩ := h3 (by omega)
  have HC := Lib.hid hc
  have b1 : decide ((at_ : Int) < 0) = false := by simp
  have b2 : decide (l.length ≤ at_) = false := by simp; omega
  clear hc h3
  go_enter Try.func64, Try.ntmps64
  go_wp2
  go_loop [5, 6, 7] (fun x i _ => ∃ k m : Nat, k ≤ l.length ∧ 1 ≤ m ∧ m ≤ 2 * k + 1 ∧ i = .int .i64 k ∧ x = .int .i64 m ∧ Hid (endR 1 at_ l = endR m k l)) (fun _ i _ => l.length - (intOf i).toNat)
  case atStart => exact ⟨at_, 1, by omega, by omega, by omega, rfl, rfl, rfl⟩
  case round =>
    obtain ⟨k, m, hk, hm1, hm2, rfl, rfl, he⟩ := hrel
    by_cases hlt : k < l.length
    · obtain ⟨c0, c1⟩ := HC.out k _ (List.getElem?_eq_getElem hlt)
      have hb := ar_bd l[k].1
      have hb1 := hb.1
      have hb2 := hb.2
      clear hb
      have HD := Lib.hid (List.drop_eq_getElem_cons hlt)
      by_cases hneg : ar l[k].1 < 0
      · go_wp2_with (go_at_call 50; refine (rarity_any _ _).mono ?_; rintro e w' ⟨rfl, rfl⟩)
        go_ret
        exact ⟨ret_int (by rw [he.out, endR_bad m k l hm1 hlt hneg]), rfl⟩
      · by_cases hz : (m : Int) + (ar l[k].1 - 1) = 0
        · have hz' : ((m : Int) + (ar l[k].1 - 1) == 0) = true := by simp; omega
          have HZ := Lib.hid hz
          clear hz
          go_wp2_with (go_at_call 50; refine (rarity_any _ _).mono ?_; rintro e w' ⟨rfl, rfl⟩)
          go_ret
          exact ⟨ret_int (by rw [he.out, endR_done m k l hm1 hlt (by omega) HZ.out]), rfl⟩
        · have hz' : ((m : Int) + (ar l[k].1 - 1) == 0) = false := by simp; omega
          go_wp2_with (go_at_call 50; refine (rarity_any _ _).mono ?_; rintro e w' ⟨rfl, rfl⟩)
          exact ⟨⟨k + 1, m + (ar l[k].1).toNat - 1, by omega, by omega, by omega, by go_num, by congr 1; omega, he.out.trans (endR_step m k l hm1 hlt (by omega))⟩, by simp [intOf]; omega⟩
    · go_wp2
      go_ret
      exact ⟨ret_int (by rw [he.out, endR_none m k l hm1 (by omega)]), rfl⟩
end Go.Proofs.Ytogennegbihceaa
