/- Contracts: numbers in texts (of both), texts cut at a byte (the library's, the reference's), lines. -/
import Derived.Test.YtkjcjenkepejgaaDoorSplitMath
import Derived.Test.YtkjcjenkepejgaaDoorSymS
import Derived.Test.YtkjcjenkepejgaaDoorGr
import Derived.Test.YtkjcjenkepejgaaDoorShelf
set_option linter.unusedVariables false
set_option maxRecDepth 100000
set_option maxHeartbeats 2000000
namespace Go.Proofs.YtkjcjenkepejgaaDoor
open Go.RowKit

def numA (o : Option Nat) : AV := .tup [i64 (o.getD 0), boolA o.isSome]
def encStrs (l : List Bs) : AV := .sl 1 (l.map fun x => [strA (ba x)])
theorem size_of_head {s : ByteArray} {c : UInt8} (h : s[0]? = some c) : (bl s).head? = some c := by
  have hlt : 0 < s.size := by
    rcases Nat.eq_zero_or_pos s.size with h0 | h0
    · rw [getElem?_neg s 0 (by omega)] at h; cases h
    · exact h0
  have : (bl s)[0]? = some ((bl s)[0]'(by rw [bl_len]; exact hlt)) := List.getElem?_eq_getElem _
  have h2 := bl_get this
  rw [h] at h2
  cases h2
  rw [List.head?_eq_getElem?, this]
theorem get0 {s : ByteArray} (h : 0 < s.size) : ∃ c, s[0]? = some c ∧ (bl s).head? = some c := by
  refine ⟨s[0]'h, by rw [getElem?_pos s 0 h], ?_⟩
  exact size_of_head (by rw [getElem?_pos s 0 h])
theorem getB {s : ByteArray} {k : Nat} (h : k < s.size) : ∃ c, s[k]? = some c ∧ (bl s)[k]? = some c ∧ (bl s).drop k = c :: (bl s).drop (k + 1) := by
  have h1 : (bl s)[k]? = some ((bl s)[k]'(by rw [bl_len]; exact h)) := List.getElem?_eq_getElem _
  exact ⟨_, bl_get h1, h1, List.drop_eq_getElem_cons _⟩
theorem num_pow {v k : Nat} (hv : v < 10 ^ k) (hk : k < 6) : v < 100000 := Nat.lt_of_lt_of_le hv (Nat.le_trans (Nat.pow_le_pow_right (n := 10) (by decide) (show k ≤ 5 by omega)) (by decide))
theorem num_next {v k c : Nat} (hv : v < 10 ^ k) (hc : c ≤ 57) : 10 * v + (c - 48) < 10 ^ (k + 1) := by rw [Nat.pow_succ]; omega
theorem frz_num {h : Nat → Option LObj} {a : Int} {b : Bool} {o : Option Nat} (h1 : a = ((o.getD 0 : Nat) : Int)) (h2 : b = o.isSome) : Frz h (.tup [.v (.int .i64 a), .v (.bool b)]) (numA o) := by
  subst h1 h2; exact Frz.pure
theorem ls_eq {id s a b : Nat} (h : a = b) : AV.ls id s a = .ls id s b := by rw [h]
theorem str_eq {a b : ByteArray} (h : a = b) : AV.v (.string a) = strA b := by rw [h]; rfl
theorem numBad_of {s : ByteArray} {c0 : UInt8} (h1 : 1 ≤ s.size) (h2 : s.size ≤ 6) (hh : (bl s).head? = some c0) (h : s.size ≤ 1 ∨ c0.toNat ≠ 48) : numBad (bl s) = false := by
  have e1 : decide (s.size < 1) = false := decide_eq_false (by omega)
  have e2 : decide (6 < s.size) = false := decide_eq_false (by omega)
  simp only [numBad, bl_len, hh, e1, e2, Bool.false_or]
  rcases h with h | h
  · have e3 : decide (1 < s.size) = false := decide_eq_false (by omega)
    simp only [e3, Bool.false_and]
  · rw [Bool.and_eq_false_iff]
    right
    rw [beq_eq_false_iff_ne]
    intro e
    cases e
    exact h rfl
theorem numBad_zero {s : ByteArray} {c0 : UInt8} (h1 : 1 < s.size) (hh : (bl s).head? = some c0) (h : c0.toNat = 48) : numBad (bl s) = true := by
  have e : c0 = 48 := UInt8.toNat_inj.1 h
  have e3 : decide (1 < s.size) = true := decide_eq_true h1
  simp [numBad, bl_len, hh, e, e3]
theorem numBad_short {s : ByteArray} (h : s.size < 1) : numBad (bl s) = true := by
  have e : decide (s.size < 1) = true := decide_eq_true h
  simp only [numBad, bl_len, e, Bool.true_or]
theorem numBad_long {s : ByteArray} (h : 6 < s.size) : numBad (bl s) = true := by
  have e : decide (6 < s.size) = true := decide_eq_true h
  simp only [numBad, bl_len, e, Bool.true_or, Bool.or_true]
theorem beq_bl (a b : ByteArray) : (a.toList == b.toList) = decide (bl a = bl b) := by
  rw [Lib.toList_data, Lib.toList_data]; unfold bl; rw [Bool.eq_iff_iff]; simp
theorem numberO_bad {l : Bs} (h : numBad l = true) : numberO l = none := by simp [numberO, h]
theorem numberO_ok {l : Bs} (h : numBad l = false) : numberO l = numGo 0 l := by simp [numberO, h]

theorem number_con (s : ByteArray) (hs : s.size ≤ 100000) : Con Tryd.prog 33 [strA s] (numA (numberO (bl s))) := by
  refine con_of Tryd.func33 rfl rfl Tryd.ntmps33 Tryd.results33 rfl rfl ?_
  (repeat (first | refine L_int tok rfl (by constructor <;> omega) rfl rfl ?_ | refine L_lenMap tok rfl rfl rfl rfl ?_ | refine L_calm tok rfl rfl rfl ?_ | refine L_nil ?_ | refine A_seq ?_ | refine A_region (lf := lfT) ?_ | refine A_region_drawn (lf := lf0) mixed (by kernel_rfl) rfl ?_ | refine L_skip rfl rfl ?_ | refine L_box rfl rfl rfl rfl rfl rfl rfl rfl ?_ | refine L_alloc tok rfl rfl rfl rfl rfl rfl rfl ?_ | refine L_store tok rfl rfl rfl rfl rfl rfl rfl rfl rfl ?_ | refine L_build tok rfl rfl rfl rfl rfl rfl ?_ | refine L_buildSlice tok rfl rfl rfl rfl rfl rfl rfl rfl rfl ?_ | refine L_makeFunc rfl rfl rfl ?_ | with_reducible refine inblk_n ?_ | with_reducible refine then_n ?_ | refine A_block ?_ | refine A_skip ?_ | refine A_exit ?_ | refine A_cond (b := true) rfl (fun _ => ?_) (fun h => by cases h) | refine A_cond (b := false) rfl (fun h => by cases h) (fun _ => ?_) | refine L_index tok rfl rfl rfl (by omega) (row_map (by assumption)) rfl rfl ?_ | refine L_index tok rfl rfl rfl (by omega) (row_mapI (by assumption)) rfl rfl ?_))
  refine L_split 10 rfl (fun h1 => ?_) (fun h1 => ?_)
  · simp at h1
    (repeat (first | refine L_int tok rfl (by constructor <;> omega) rfl rfl ?_ | refine L_lenMap tok rfl rfl rfl rfl ?_ | refine L_calm tok rfl rfl rfl ?_ | refine L_nil ?_ | refine A_seq ?_ | refine A_region (lf := lfT) ?_ | refine A_region_drawn (lf := lf0) mixed (by kernel_rfl) rfl ?_ | refine L_skip rfl rfl ?_ | refine L_box rfl rfl rfl rfl rfl rfl rfl rfl ?_ | refine L_alloc tok rfl rfl rfl rfl rfl rfl rfl ?_ | refine L_store tok rfl rfl rfl rfl rfl rfl rfl rfl rfl ?_ | refine L_build tok rfl rfl rfl rfl rfl rfl ?_ | refine L_buildSlice tok rfl rfl rfl rfl rfl rfl rfl rfl rfl ?_ | refine L_makeFunc rfl rfl rfl ?_ | with_reducible refine inblk_n ?_ | with_reducible refine then_n ?_ | refine A_block ?_ | refine A_skip ?_ | refine A_exit ?_ | refine A_cond (b := true) rfl (fun _ => ?_) (fun h => by cases h) | refine A_cond (b := false) rfl (fun h => by cases h) (fun _ => ?_) | refine L_index tok rfl rfl rfl (by omega) (row_map (by assumption)) rfl rfl ?_ | refine L_index tok rfl rfl rfl (by omega) (row_mapI (by assumption)) rfl rfl ?_))
    refine A_ret ?_; refine ⟨_, rfl, ?_⟩
    have : numBad (bl s) = true := numBad_short (by omega)
    exact frz_num (by simp [numberO_bad this]) (by simp [numberO_bad this])
  simp at h1
  (repeat (first | refine L_int tok rfl (by constructor <;> omega) rfl rfl ?_ | refine L_lenMap tok rfl rfl rfl rfl ?_ | refine L_calm tok rfl rfl rfl ?_ | refine L_nil ?_ | refine A_seq ?_ | refine A_region (lf := lfT) ?_ | refine A_region_drawn (lf := lf0) mixed (by kernel_rfl) rfl ?_ | refine L_skip rfl rfl ?_ | refine L_box rfl rfl rfl rfl rfl rfl rfl rfl ?_ | refine L_alloc tok rfl rfl rfl rfl rfl rfl rfl ?_ | refine L_store tok rfl rfl rfl rfl rfl rfl rfl rfl rfl ?_ | refine L_build tok rfl rfl rfl rfl rfl rfl ?_ | refine L_buildSlice tok rfl rfl rfl rfl rfl rfl rfl rfl rfl ?_ | refine L_makeFunc rfl rfl rfl ?_ | with_reducible refine inblk_n ?_ | with_reducible refine then_n ?_ | refine A_block ?_ | refine A_skip ?_ | refine A_exit ?_ | refine A_cond (b := true) rfl (fun _ => ?_) (fun h => by cases h) | refine A_cond (b := false) rfl (fun h => by cases h) (fun _ => ?_) | refine L_index tok rfl rfl rfl (by omega) (row_map (by assumption)) rfl rfl ?_ | refine L_index tok rfl rfl rfl (by omega) (row_mapI (by assumption)) rfl rfl ?_))
  refine L_split 15 rfl (fun h2 => ?_) (fun h2 => ?_)
  · simp at h2
    (repeat (first | refine L_int tok rfl (by constructor <;> omega) rfl rfl ?_ | refine L_lenMap tok rfl rfl rfl rfl ?_ | refine L_calm tok rfl rfl rfl ?_ | refine L_nil ?_ | refine A_seq ?_ | refine A_region (lf := lfT) ?_ | refine A_region_drawn (lf := lf0) mixed (by kernel_rfl) rfl ?_ | refine L_skip rfl rfl ?_ | refine L_box rfl rfl rfl rfl rfl rfl rfl rfl ?_ | refine L_alloc tok rfl rfl rfl rfl rfl rfl rfl ?_ | refine L_store tok rfl rfl rfl rfl rfl rfl rfl rfl rfl ?_ | refine L_build tok rfl rfl rfl rfl rfl rfl ?_ | refine L_buildSlice tok rfl rfl rfl rfl rfl rfl rfl rfl rfl ?_ | refine L_makeFunc rfl rfl rfl ?_ | with_reducible refine inblk_n ?_ | with_reducible refine then_n ?_ | refine A_block ?_ | refine A_skip ?_ | refine A_exit ?_ | refine A_cond (b := true) rfl (fun _ => ?_) (fun h => by cases h) | refine A_cond (b := false) rfl (fun h => by cases h) (fun _ => ?_) | refine L_index tok rfl rfl rfl (by omega) (row_map (by assumption)) rfl rfl ?_ | refine L_index tok rfl rfl rfl (by omega) (row_mapI (by assumption)) rfl rfl ?_))
    refine A_ret ?_; refine ⟨_, rfl, ?_⟩
    have : numBad (bl s) = true := numBad_long (by omega)
    exact frz_num (by simp [numberO_bad this]) (by simp [numberO_bad this])
  simp at h2
  (repeat (first | refine L_int tok rfl (by constructor <;> omega) rfl rfl ?_ | refine L_lenMap tok rfl rfl rfl rfl ?_ | refine L_calm tok rfl rfl rfl ?_ | refine L_nil ?_ | refine A_seq ?_ | refine A_region (lf := lfT) ?_ | refine A_region_drawn (lf := lf0) mixed (by kernel_rfl) rfl ?_ | refine L_skip rfl rfl ?_ | refine L_box rfl rfl rfl rfl rfl rfl rfl rfl ?_ | refine L_alloc tok rfl rfl rfl rfl rfl rfl rfl ?_ | refine L_store tok rfl rfl rfl rfl rfl rfl rfl rfl rfl ?_ | refine L_build tok rfl rfl rfl rfl rfl rfl ?_ | refine L_buildSlice tok rfl rfl rfl rfl rfl rfl rfl rfl rfl ?_ | refine L_makeFunc rfl rfl rfl ?_ | with_reducible refine inblk_n ?_ | with_reducible refine then_n ?_ | refine A_block ?_ | refine A_skip ?_ | refine A_exit ?_ | refine A_cond (b := true) rfl (fun _ => ?_) (fun h => by cases h) | refine A_cond (b := false) rfl (fun h => by cases h) (fun _ => ?_) | refine L_index tok rfl rfl rfl (by omega) (row_map (by assumption)) rfl rfl ?_ | refine L_index tok rfl rfl rfl (by omega) (row_mapI (by assumption)) rfl rfl ?_))
  obtain ⟨c0, hc0, hh0⟩ := get0 (s := s) (by omega)
  refine L_split 19 rfl (fun h3 => ?_) (fun h3 => ?_)
  focus
    simp at h3
    (repeat (first | refine L_int tok rfl (by constructor <;> omega) rfl rfl ?_ | refine L_lenMap tok rfl rfl rfl rfl ?_ | refine L_calm tok rfl rfl rfl ?_ | refine L_nil ?_ | refine A_seq ?_ | refine A_region (lf := lfT) ?_ | refine A_region_drawn (lf := lf0) mixed (by kernel_rfl) rfl ?_ | refine L_skip rfl rfl ?_ | refine L_box rfl rfl rfl rfl rfl rfl rfl rfl ?_ | refine L_alloc tok rfl rfl rfl rfl rfl rfl rfl ?_ | refine L_store tok rfl rfl rfl rfl rfl rfl rfl rfl rfl ?_ | refine L_build tok rfl rfl rfl rfl rfl rfl ?_ | refine L_buildSlice tok rfl rfl rfl rfl rfl rfl rfl rfl rfl ?_ | refine L_makeFunc rfl rfl rfl ?_ | with_reducible refine inblk_n ?_ | with_reducible refine then_n ?_ | refine A_block ?_ | refine A_skip ?_ | refine A_exit ?_ | refine A_cond (b := true) rfl (fun _ => ?_) (fun h => by cases h) | refine A_cond (b := false) rfl (fun h => by cases h) (fun _ => ?_) | refine L_index tok rfl rfl rfl (by omega) (row_map (by assumption)) rfl rfl ?_ | refine L_index tok rfl rfl rfl (by omega) (row_mapI (by assumption)) rfl rfl ?_ | refine L_sindex tok rfl rfl rfl (by omega) hc0 rfl rfl ?_))
    refine A_cond rfl (fun h4 => ?_) (fun h4 => ?_)
    · simp at h4
      (repeat (first | refine L_int tok rfl (by constructor <;> omega) rfl rfl ?_ | refine L_lenMap tok rfl rfl rfl rfl ?_ | refine L_calm tok rfl rfl rfl ?_ | refine L_nil ?_ | refine A_seq ?_ | refine A_region (lf := lfT) ?_ | refine A_region_drawn (lf := lf0) mixed (by kernel_rfl) rfl ?_ | refine L_skip rfl rfl ?_ | refine L_box rfl rfl rfl rfl rfl rfl rfl rfl ?_ | refine L_alloc tok rfl rfl rfl rfl rfl rfl rfl ?_ | refine L_store tok rfl rfl rfl rfl rfl rfl rfl rfl rfl ?_ | refine L_build tok rfl rfl rfl rfl rfl rfl ?_ | refine L_buildSlice tok rfl rfl rfl rfl rfl rfl rfl rfl rfl ?_ | refine L_makeFunc rfl rfl rfl ?_ | with_reducible refine inblk_n ?_ | with_reducible refine then_n ?_ | refine A_block ?_ | refine A_skip ?_ | refine A_exit ?_ | refine A_cond (b := true) rfl (fun _ => ?_) (fun h => by cases h) | refine A_cond (b := false) rfl (fun h => by cases h) (fun _ => ?_) | refine L_index tok rfl rfl rfl (by omega) (row_map (by assumption)) rfl rfl ?_ | refine L_index tok rfl rfl rfl (by omega) (row_mapI (by assumption)) rfl rfl ?_))
      refine A_ret ?_; refine ⟨_, rfl, ?_⟩
      have : numBad (bl s) = true := numBad_zero (by omega) hh0 (by omega)
      exact frz_num (by simp [numberO_bad this]) (by simp [numberO_bad this])
    simp at h4
    have hg := numBad_of (s := s) (by omega) (by omega) hh0 (.inr (by omega))
  rotate_left
  focus
    simp at h3
    have hg := numBad_of (s := s) (by omega) (by omega) hh0 (.inl (by omega))
  all_goals
    (repeat (first | refine L_int tok rfl (by constructor <;> omega) rfl rfl ?_ | refine L_lenMap tok rfl rfl rfl rfl ?_ | refine L_calm tok rfl rfl rfl ?_ | refine L_nil ?_ | refine A_seq ?_ | refine A_region (lf := lfT) ?_ | refine A_region_drawn (lf := lf0) mixed (by kernel_rfl) rfl ?_ | refine L_skip rfl rfl ?_ | refine L_box rfl rfl rfl rfl rfl rfl rfl rfl ?_ | refine L_alloc tok rfl rfl rfl rfl rfl rfl rfl ?_ | refine L_store tok rfl rfl rfl rfl rfl rfl rfl rfl rfl ?_ | refine L_build tok rfl rfl rfl rfl rfl rfl ?_ | refine L_buildSlice tok rfl rfl rfl rfl rfl rfl rfl rfl rfl ?_ | refine L_makeFunc rfl rfl rfl ?_ | with_reducible refine inblk_n ?_ | with_reducible refine then_n ?_ | refine A_block ?_ | refine A_skip ?_ | refine A_exit ?_ | refine A_cond (b := true) rfl (fun _ => ?_) (fun h => by cases h) | refine A_cond (b := false) rfl (fun h => by cases h) (fun _ => ?_) | refine L_index tok rfl rfl rfl (by omega) (row_map (by assumption)) rfl rfl ?_ | refine L_index tok rfl rfl rfl (by omega) (row_mapI (by assumption)) rfl rfl ?_))
    refine A_inv (α := Nat × Int) (fun q => [(27, i64 q.1), (26, i64 s.size), (4, i64 q.2), (0, strA s)]) (fun q => []) (fun q => s.size - q.1) (fun q => q.1 ≤ s.size ∧ ∃ v : Nat, q.2 = v ∧ v < 10 ^ q.1 ∧ numGo v ((bl s).drop q.1) = numGo 0 (bl s)) (0, 0) ⟨by simp only; omega, 0, rfl, by simp, by simp⟩ (by (repeat (first | exact subT_nil | refine subT_cons rfl ?_))) (by first | exact subH_nil | exact subH_cons rfl subH_nil | exact subH_cons rfl (subH_cons rfl subH_nil) | exact subH_cons rfl (subH_cons rfl (subH_cons rfl subH_nil)) | exact subH_cons rfl (subH_cons rfl (subH_cons rfl (subH_cons rfl subH_nil)))) ?_
    rintro ⟨k, v⟩ ⟨hk, vn, hv, hlt, hgo⟩
    simp only at hk hv hlt hgo
    subst hv
    (repeat (first | refine L_int tok rfl (by constructor <;> omega) rfl rfl ?_ | refine L_lenMap tok rfl rfl rfl rfl ?_ | refine L_calm tok rfl rfl rfl ?_ | refine L_nil ?_ | refine A_seq ?_ | refine A_region (lf := lfT) ?_ | refine A_region_drawn (lf := lf0) mixed (by kernel_rfl) rfl ?_ | refine L_skip rfl rfl ?_ | refine L_box rfl rfl rfl rfl rfl rfl rfl rfl ?_ | refine L_alloc tok rfl rfl rfl rfl rfl rfl rfl ?_ | refine L_store tok rfl rfl rfl rfl rfl rfl rfl rfl rfl ?_ | refine L_build tok rfl rfl rfl rfl rfl rfl ?_ | refine L_buildSlice tok rfl rfl rfl rfl rfl rfl rfl rfl rfl ?_ | refine L_makeFunc rfl rfl rfl ?_ | with_reducible refine inblk_n ?_ | with_reducible refine then_n ?_ | refine A_block ?_ | refine A_skip ?_ | refine A_exit ?_ | refine A_cond (b := true) rfl (fun _ => ?_) (fun h => by cases h) | refine A_cond (b := false) rfl (fun h => by cases h) (fun _ => ?_) | refine L_index tok rfl rfl rfl (by omega) (row_map (by assumption)) rfl rfl ?_ | refine L_index tok rfl rfl rfl (by omega) (row_mapI (by assumption)) rfl rfl ?_))
    refine A_cond rfl (fun h5 => ?_) (fun h5 => ?_)
    · simp at h5
      obtain ⟨c, hc, hbc, hdr⟩ := getB h5
      rw [hdr] at hgo
      have hv5 := num_pow hlt (show k < 6 by omega)
      have hcl := c.toNat_lt
      (repeat (first | refine L_int tok rfl (by constructor <;> omega) rfl rfl ?_ | refine L_lenMap tok rfl rfl rfl rfl ?_ | refine L_calm tok rfl rfl rfl ?_ | refine L_nil ?_ | refine A_seq ?_ | refine A_region (lf := lfT) ?_ | refine A_region_drawn (lf := lf0) mixed (by kernel_rfl) rfl ?_ | refine L_skip rfl rfl ?_ | refine L_box rfl rfl rfl rfl rfl rfl rfl rfl ?_ | refine L_alloc tok rfl rfl rfl rfl rfl rfl rfl ?_ | refine L_store tok rfl rfl rfl rfl rfl rfl rfl rfl rfl ?_ | refine L_build tok rfl rfl rfl rfl rfl rfl ?_ | refine L_buildSlice tok rfl rfl rfl rfl rfl rfl rfl rfl rfl ?_ | refine L_makeFunc rfl rfl rfl ?_ | with_reducible refine inblk_n ?_ | with_reducible refine then_n ?_ | refine A_block ?_ | refine A_skip ?_ | refine A_exit ?_ | refine A_cond (b := true) rfl (fun _ => ?_) (fun h => by cases h) | refine A_cond (b := false) rfl (fun h => by cases h) (fun _ => ?_) | refine L_index tok rfl rfl rfl (by omega) (row_map (by assumption)) rfl rfl ?_ | refine L_index tok rfl rfl rfl (by omega) (row_mapI (by assumption)) rfl rfl ?_ | refine L_sindex tok rfl rfl rfl (by omega) hc rfl rfl ?_))
      refine L_split 35 rfl (fun h6 => ?_) (fun h6 => ?_)
      · simp at h6
        (repeat (first | refine L_int tok rfl (by constructor <;> omega) rfl rfl ?_ | refine L_lenMap tok rfl rfl rfl rfl ?_ | refine L_calm tok rfl rfl rfl ?_ | refine L_nil ?_ | refine A_seq ?_ | refine A_region (lf := lfT) ?_ | refine A_region_drawn (lf := lf0) mixed (by kernel_rfl) rfl ?_ | refine L_skip rfl rfl ?_ | refine L_box rfl rfl rfl rfl rfl rfl rfl rfl ?_ | refine L_alloc tok rfl rfl rfl rfl rfl rfl rfl ?_ | refine L_store tok rfl rfl rfl rfl rfl rfl rfl rfl rfl ?_ | refine L_build tok rfl rfl rfl rfl rfl rfl ?_ | refine L_buildSlice tok rfl rfl rfl rfl rfl rfl rfl rfl rfl ?_ | refine L_makeFunc rfl rfl rfl ?_ | with_reducible refine inblk_n ?_ | with_reducible refine then_n ?_ | refine A_block ?_ | refine A_skip ?_ | refine A_exit ?_ | refine A_cond (b := true) rfl (fun _ => ?_) (fun h => by cases h) | refine A_cond (b := false) rfl (fun h => by cases h) (fun _ => ?_) | refine L_index tok rfl rfl rfl (by omega) (row_map (by assumption)) rfl rfl ?_ | refine L_index tok rfl rfl rfl (by omega) (row_mapI (by assumption)) rfl rfl ?_))
        refine A_ret ?_; refine ⟨_, rfl, ?_⟩
        have : numberO (bl s) = none := by rw [numberO_ok hg, ← hgo]; simp [numGo]; omega
        exact frz_num (by simp [this]) (by simp [this])
      simp at h6
      (repeat (first | refine L_int tok rfl (by constructor <;> omega) rfl rfl ?_ | refine L_lenMap tok rfl rfl rfl rfl ?_ | refine L_calm tok rfl rfl rfl ?_ | refine L_nil ?_ | refine A_seq ?_ | refine A_region (lf := lfT) ?_ | refine A_region_drawn (lf := lf0) mixed (by kernel_rfl) rfl ?_ | refine L_skip rfl rfl ?_ | refine L_box rfl rfl rfl rfl rfl rfl rfl rfl ?_ | refine L_alloc tok rfl rfl rfl rfl rfl rfl rfl ?_ | refine L_store tok rfl rfl rfl rfl rfl rfl rfl rfl rfl ?_ | refine L_build tok rfl rfl rfl rfl rfl rfl ?_ | refine L_buildSlice tok rfl rfl rfl rfl rfl rfl rfl rfl rfl ?_ | refine L_makeFunc rfl rfl rfl ?_ | with_reducible refine inblk_n ?_ | with_reducible refine then_n ?_ | refine A_block ?_ | refine A_skip ?_ | refine A_exit ?_ | refine A_cond (b := true) rfl (fun _ => ?_) (fun h => by cases h) | refine A_cond (b := false) rfl (fun h => by cases h) (fun _ => ?_) | refine L_index tok rfl rfl rfl (by omega) (row_map (by assumption)) rfl rfl ?_ | refine L_index tok rfl rfl rfl (by omega) (row_mapI (by assumption)) rfl rfl ?_))
      refine A_cond rfl (fun h7 => ?_) (fun h7 => ?_)
      · simp at h7
        (repeat (first | refine L_int tok rfl (by constructor <;> omega) rfl rfl ?_ | refine L_lenMap tok rfl rfl rfl rfl ?_ | refine L_calm tok rfl rfl rfl ?_ | refine L_nil ?_ | refine A_seq ?_ | refine A_region (lf := lfT) ?_ | refine A_region_drawn (lf := lf0) mixed (by kernel_rfl) rfl ?_ | refine L_skip rfl rfl ?_ | refine L_box rfl rfl rfl rfl rfl rfl rfl rfl ?_ | refine L_alloc tok rfl rfl rfl rfl rfl rfl rfl ?_ | refine L_store tok rfl rfl rfl rfl rfl rfl rfl rfl rfl ?_ | refine L_build tok rfl rfl rfl rfl rfl rfl ?_ | refine L_buildSlice tok rfl rfl rfl rfl rfl rfl rfl rfl rfl ?_ | refine L_makeFunc rfl rfl rfl ?_ | with_reducible refine inblk_n ?_ | with_reducible refine then_n ?_ | refine A_block ?_ | refine A_skip ?_ | refine A_exit ?_ | refine A_cond (b := true) rfl (fun _ => ?_) (fun h => by cases h) | refine A_cond (b := false) rfl (fun h => by cases h) (fun _ => ?_) | refine L_index tok rfl rfl rfl (by omega) (row_map (by assumption)) rfl rfl ?_ | refine L_index tok rfl rfl rfl (by omega) (row_mapI (by assumption)) rfl rfl ?_))
        refine A_ret ?_; refine ⟨_, rfl, ?_⟩
        have : numberO (bl s) = none := by rw [numberO_ok hg, ← hgo]; simp [numGo]; omega
        exact frz_num (by simp [this]) (by simp [this])
      simp at h7
      (repeat (first | refine L_u8 tok rfl (by constructor <;> omega) rfl rfl ?_ | refine L_int tok rfl (by constructor <;> omega) rfl rfl ?_ | refine L_lenMap tok rfl rfl rfl rfl ?_ | refine L_calm tok rfl rfl rfl ?_ | refine L_nil ?_ | refine A_seq ?_ | refine A_region (lf := lfT) ?_ | refine A_region_drawn (lf := lf0) mixed (by kernel_rfl) rfl ?_ | refine L_skip rfl rfl ?_ | refine L_box rfl rfl rfl rfl rfl rfl rfl rfl ?_ | refine L_alloc tok rfl rfl rfl rfl rfl rfl rfl ?_ | refine L_store tok rfl rfl rfl rfl rfl rfl rfl rfl rfl ?_ | refine L_build tok rfl rfl rfl rfl rfl rfl ?_ | refine L_buildSlice tok rfl rfl rfl rfl rfl rfl rfl rfl rfl ?_ | refine L_makeFunc rfl rfl rfl ?_ | with_reducible refine inblk_n ?_ | with_reducible refine then_n ?_ | refine A_block ?_ | refine A_skip ?_ | refine A_exit ?_ | refine A_cond (b := true) rfl (fun _ => ?_) (fun h => by cases h) | refine A_cond (b := false) rfl (fun h => by cases h) (fun _ => ?_) | refine L_index tok rfl rfl rfl (by omega) (row_map (by assumption)) rfl rfl ?_ | refine L_index tok rfl rfl rfl (by omega) (row_mapI (by assumption)) rfl rfl ?_))
      refine rnd (k + 1, _) ⟨by simp only; omega, 10 * vn + (c.toNat - 48), ?_, num_next hlt (by omega), ?_⟩ (by simp only; omega) (by (repeat (first | exact subT_nil | refine subT_cons rfl ?_))) (by first | exact subH_nil | exact subH_cons rfl subH_nil | exact subH_cons rfl (subH_cons rfl subH_nil) | exact subH_cons rfl (subH_cons rfl (subH_cons rfl subH_nil)) | exact subH_cons rfl (subH_cons rfl (subH_cons rfl (subH_cons rfl subH_nil))))
      · simp only; omega
      · rw [← hgo]
        simp only [numGo]
        rw [if_neg (by omega)]
    · simp at h5
      obtain rfl : k = s.size := by omega
      rw [show (bl s).drop s.size = [] by rw [← bl_len]; simp] at hgo
      (repeat (first | refine L_int tok rfl (by constructor <;> omega) rfl rfl ?_ | refine L_lenMap tok rfl rfl rfl rfl ?_ | refine L_calm tok rfl rfl rfl ?_ | refine L_nil ?_ | refine A_seq ?_ | refine A_region (lf := lfT) ?_ | refine A_region_drawn (lf := lf0) mixed (by kernel_rfl) rfl ?_ | refine L_skip rfl rfl ?_ | refine L_box rfl rfl rfl rfl rfl rfl rfl rfl ?_ | refine L_alloc tok rfl rfl rfl rfl rfl rfl rfl ?_ | refine L_store tok rfl rfl rfl rfl rfl rfl rfl rfl rfl ?_ | refine L_build tok rfl rfl rfl rfl rfl rfl ?_ | refine L_buildSlice tok rfl rfl rfl rfl rfl rfl rfl rfl rfl ?_ | refine L_makeFunc rfl rfl rfl ?_ | with_reducible refine inblk_n ?_ | with_reducible refine then_n ?_ | refine A_block ?_ | refine A_skip ?_ | refine A_exit ?_ | refine A_cond (b := true) rfl (fun _ => ?_) (fun h => by cases h) | refine A_cond (b := false) rfl (fun h => by cases h) (fun _ => ?_) | refine L_index tok rfl rfl rfl (by omega) (row_map (by assumption)) rfl rfl ?_ | refine L_index tok rfl rfl rfl (by omega) (row_mapI (by assumption)) rfl rfl ?_))
      refine A_ret ?_; refine ⟨_, rfl, ?_⟩
      have : numberO (bl s) = some vn := by rw [numberO_ok hg, ← hgo]; rfl
      exact frz_num (by simp [this]) (by simp [this])
theorem rnumber_con (s : ByteArray) (hs : s.size ≤ 100000) : Con Tryd.prog 36 [strA s] (numA (numberO (bl s))) := by
  refine con_of Tryd.func36 rfl rfl Tryd.ntmps36 Tryd.results36 rfl rfl ?_
  (repeat (first | refine L_int tok rfl (by constructor <;> omega) rfl rfl ?_ | refine L_lenMap tok rfl rfl rfl rfl ?_ | refine L_calm tok rfl rfl rfl ?_ | refine L_nil ?_ | refine A_seq ?_ | refine A_region (lf := lfT) ?_ | refine A_region_drawn (lf := lf0) mixed (by kernel_rfl) rfl ?_ | refine L_skip rfl rfl ?_ | refine L_box rfl rfl rfl rfl rfl rfl rfl rfl ?_ | refine L_alloc tok rfl rfl rfl rfl rfl rfl rfl ?_ | refine L_store tok rfl rfl rfl rfl rfl rfl rfl rfl rfl ?_ | refine L_build tok rfl rfl rfl rfl rfl rfl ?_ | refine L_buildSlice tok rfl rfl rfl rfl rfl rfl rfl rfl rfl ?_ | refine L_makeFunc rfl rfl rfl ?_ | with_reducible refine inblk_n ?_ | with_reducible refine then_n ?_ | refine A_block ?_ | refine A_skip ?_ | refine A_exit ?_ | refine A_cond (b := true) rfl (fun _ => ?_) (fun h => by cases h) | refine A_cond (b := false) rfl (fun h => by cases h) (fun _ => ?_) | refine L_index tok rfl rfl rfl (by omega) (row_map (by assumption)) rfl rfl ?_ | refine L_index tok rfl rfl rfl (by omega) (row_mapI (by assumption)) rfl rfl ?_))
  refine L_split 9 rfl (fun h1 => ?_) (fun h1 => ?_)
  · simp at h1
    (repeat (first | refine L_int tok rfl (by constructor <;> omega) rfl rfl ?_ | refine L_lenMap tok rfl rfl rfl rfl ?_ | refine L_calm tok rfl rfl rfl ?_ | refine L_nil ?_ | refine A_seq ?_ | refine A_region (lf := lfT) ?_ | refine A_region_drawn (lf := lf0) mixed (by kernel_rfl) rfl ?_ | refine L_skip rfl rfl ?_ | refine L_box rfl rfl rfl rfl rfl rfl rfl rfl ?_ | refine L_alloc tok rfl rfl rfl rfl rfl rfl rfl ?_ | refine L_store tok rfl rfl rfl rfl rfl rfl rfl rfl rfl ?_ | refine L_build tok rfl rfl rfl rfl rfl rfl ?_ | refine L_buildSlice tok rfl rfl rfl rfl rfl rfl rfl rfl rfl ?_ | refine L_makeFunc rfl rfl rfl ?_ | with_reducible refine inblk_n ?_ | with_reducible refine then_n ?_ | refine A_block ?_ | refine A_skip ?_ | refine A_exit ?_ | refine A_cond (b := true) rfl (fun _ => ?_) (fun h => by cases h) | refine A_cond (b := false) rfl (fun h => by cases h) (fun _ => ?_) | refine L_index tok rfl rfl rfl (by omega) (row_map (by assumption)) rfl rfl ?_ | refine L_index tok rfl rfl rfl (by omega) (row_mapI (by assumption)) rfl rfl ?_))
    refine A_ret ?_; refine ⟨_, rfl, ?_⟩
    have : numBad (bl s) = true := numBad_short (by omega)
    exact frz_num (by simp [numberO_bad this]) (by simp [numberO_bad this])
  simp at h1
  (repeat (first | refine L_int tok rfl (by constructor <;> omega) rfl rfl ?_ | refine L_lenMap tok rfl rfl rfl rfl ?_ | refine L_calm tok rfl rfl rfl ?_ | refine L_nil ?_ | refine A_seq ?_ | refine A_region (lf := lfT) ?_ | refine A_region_drawn (lf := lf0) mixed (by kernel_rfl) rfl ?_ | refine L_skip rfl rfl ?_ | refine L_box rfl rfl rfl rfl rfl rfl rfl rfl ?_ | refine L_alloc tok rfl rfl rfl rfl rfl rfl rfl ?_ | refine L_store tok rfl rfl rfl rfl rfl rfl rfl rfl rfl ?_ | refine L_build tok rfl rfl rfl rfl rfl rfl ?_ | refine L_buildSlice tok rfl rfl rfl rfl rfl rfl rfl rfl rfl ?_ | refine L_makeFunc rfl rfl rfl ?_ | with_reducible refine inblk_n ?_ | with_reducible refine then_n ?_ | refine A_block ?_ | refine A_skip ?_ | refine A_exit ?_ | refine A_cond (b := true) rfl (fun _ => ?_) (fun h => by cases h) | refine A_cond (b := false) rfl (fun h => by cases h) (fun _ => ?_) | refine L_index tok rfl rfl rfl (by omega) (row_map (by assumption)) rfl rfl ?_ | refine L_index tok rfl rfl rfl (by omega) (row_mapI (by assumption)) rfl rfl ?_))
  refine L_split 14 rfl (fun h2 => ?_) (fun h2 => ?_)
  · simp at h2
    (repeat (first | refine L_int tok rfl (by constructor <;> omega) rfl rfl ?_ | refine L_lenMap tok rfl rfl rfl rfl ?_ | refine L_calm tok rfl rfl rfl ?_ | refine L_nil ?_ | refine A_seq ?_ | refine A_region (lf := lfT) ?_ | refine A_region_drawn (lf := lf0) mixed (by kernel_rfl) rfl ?_ | refine L_skip rfl rfl ?_ | refine L_box rfl rfl rfl rfl rfl rfl rfl rfl ?_ | refine L_alloc tok rfl rfl rfl rfl rfl rfl rfl ?_ | refine L_store tok rfl rfl rfl rfl rfl rfl rfl rfl rfl ?_ | refine L_build tok rfl rfl rfl rfl rfl rfl ?_ | refine L_buildSlice tok rfl rfl rfl rfl rfl rfl rfl rfl rfl ?_ | refine L_makeFunc rfl rfl rfl ?_ | with_reducible refine inblk_n ?_ | with_reducible refine then_n ?_ | refine A_block ?_ | refine A_skip ?_ | refine A_exit ?_ | refine A_cond (b := true) rfl (fun _ => ?_) (fun h => by cases h) | refine A_cond (b := false) rfl (fun h => by cases h) (fun _ => ?_) | refine L_index tok rfl rfl rfl (by omega) (row_map (by assumption)) rfl rfl ?_ | refine L_index tok rfl rfl rfl (by omega) (row_mapI (by assumption)) rfl rfl ?_))
    refine A_ret ?_; refine ⟨_, rfl, ?_⟩
    have : numBad (bl s) = true := numBad_long (by omega)
    exact frz_num (by simp [numberO_bad this]) (by simp [numberO_bad this])
  simp at h2
  (repeat (first | refine L_int tok rfl (by constructor <;> omega) rfl rfl ?_ | refine L_lenMap tok rfl rfl rfl rfl ?_ | refine L_calm tok rfl rfl rfl ?_ | refine L_nil ?_ | refine A_seq ?_ | refine A_region (lf := lfT) ?_ | refine A_region_drawn (lf := lf0) mixed (by kernel_rfl) rfl ?_ | refine L_skip rfl rfl ?_ | refine L_box rfl rfl rfl rfl rfl rfl rfl rfl ?_ | refine L_alloc tok rfl rfl rfl rfl rfl rfl rfl ?_ | refine L_store tok rfl rfl rfl rfl rfl rfl rfl rfl rfl ?_ | refine L_build tok rfl rfl rfl rfl rfl rfl ?_ | refine L_buildSlice tok rfl rfl rfl rfl rfl rfl rfl rfl rfl ?_ | refine L_makeFunc rfl rfl rfl ?_ | with_reducible refine inblk_n ?_ | with_reducible refine then_n ?_ | refine A_block ?_ | refine A_skip ?_ | refine A_exit ?_ | refine A_cond (b := true) rfl (fun _ => ?_) (fun h => by cases h) | refine A_cond (b := false) rfl (fun h => by cases h) (fun _ => ?_) | refine L_index tok rfl rfl rfl (by omega) (row_map (by assumption)) rfl rfl ?_ | refine L_index tok rfl rfl rfl (by omega) (row_mapI (by assumption)) rfl rfl ?_))
  obtain ⟨c0, hc0, hh0⟩ := get0 (s := s) (by omega)
  refine L_split 18 rfl (fun h3 => ?_) (fun h3 => ?_)
  focus
    simp at h3
    (repeat (first | refine L_int tok rfl (by constructor <;> omega) rfl rfl ?_ | refine L_lenMap tok rfl rfl rfl rfl ?_ | refine L_calm tok rfl rfl rfl ?_ | refine L_nil ?_ | refine A_seq ?_ | refine A_region (lf := lfT) ?_ | refine A_region_drawn (lf := lf0) mixed (by kernel_rfl) rfl ?_ | refine L_skip rfl rfl ?_ | refine L_box rfl rfl rfl rfl rfl rfl rfl rfl ?_ | refine L_alloc tok rfl rfl rfl rfl rfl rfl rfl ?_ | refine L_store tok rfl rfl rfl rfl rfl rfl rfl rfl rfl ?_ | refine L_build tok rfl rfl rfl rfl rfl rfl ?_ | refine L_buildSlice tok rfl rfl rfl rfl rfl rfl rfl rfl rfl ?_ | refine L_makeFunc rfl rfl rfl ?_ | with_reducible refine inblk_n ?_ | with_reducible refine then_n ?_ | refine A_block ?_ | refine A_skip ?_ | refine A_exit ?_ | refine A_cond (b := true) rfl (fun _ => ?_) (fun h => by cases h) | refine A_cond (b := false) rfl (fun h => by cases h) (fun _ => ?_) | refine L_index tok rfl rfl rfl (by omega) (row_map (by assumption)) rfl rfl ?_ | refine L_index tok rfl rfl rfl (by omega) (row_mapI (by assumption)) rfl rfl ?_ | refine L_sindex tok rfl rfl rfl (by omega) hc0 rfl rfl ?_))
    refine A_cond rfl (fun h4 => ?_) (fun h4 => ?_)
    · simp at h4
      (repeat (first | refine L_int tok rfl (by constructor <;> omega) rfl rfl ?_ | refine L_lenMap tok rfl rfl rfl rfl ?_ | refine L_calm tok rfl rfl rfl ?_ | refine L_nil ?_ | refine A_seq ?_ | refine A_region (lf := lfT) ?_ | refine A_region_drawn (lf := lf0) mixed (by kernel_rfl) rfl ?_ | refine L_skip rfl rfl ?_ | refine L_box rfl rfl rfl rfl rfl rfl rfl rfl ?_ | refine L_alloc tok rfl rfl rfl rfl rfl rfl rfl ?_ | refine L_store tok rfl rfl rfl rfl rfl rfl rfl rfl rfl ?_ | refine L_build tok rfl rfl rfl rfl rfl rfl ?_ | refine L_buildSlice tok rfl rfl rfl rfl rfl rfl rfl rfl rfl ?_ | refine L_makeFunc rfl rfl rfl ?_ | with_reducible refine inblk_n ?_ | with_reducible refine then_n ?_ | refine A_block ?_ | refine A_skip ?_ | refine A_exit ?_ | refine A_cond (b := true) rfl (fun _ => ?_) (fun h => by cases h) | refine A_cond (b := false) rfl (fun h => by cases h) (fun _ => ?_) | refine L_index tok rfl rfl rfl (by omega) (row_map (by assumption)) rfl rfl ?_ | refine L_index tok rfl rfl rfl (by omega) (row_mapI (by assumption)) rfl rfl ?_))
      refine A_ret ?_; refine ⟨_, rfl, ?_⟩
      have : numBad (bl s) = true := numBad_zero (by omega) hh0 (by omega)
      exact frz_num (by simp [numberO_bad this]) (by simp [numberO_bad this])
    simp at h4
    have hg := numBad_of (s := s) (by omega) (by omega) hh0 (.inr (by omega))
  rotate_left
  focus
    simp at h3
    have hg := numBad_of (s := s) (by omega) (by omega) hh0 (.inl (by omega))
  all_goals
    (repeat (first | refine L_int tok rfl (by constructor <;> omega) rfl rfl ?_ | refine L_lenMap tok rfl rfl rfl rfl ?_ | refine L_calm tok rfl rfl rfl ?_ | refine L_nil ?_ | refine A_seq ?_ | refine A_region (lf := lfT) ?_ | refine A_region_drawn (lf := lf0) mixed (by kernel_rfl) rfl ?_ | refine L_skip rfl rfl ?_ | refine L_box rfl rfl rfl rfl rfl rfl rfl rfl ?_ | refine L_alloc tok rfl rfl rfl rfl rfl rfl rfl ?_ | refine L_store tok rfl rfl rfl rfl rfl rfl rfl rfl rfl ?_ | refine L_build tok rfl rfl rfl rfl rfl rfl ?_ | refine L_buildSlice tok rfl rfl rfl rfl rfl rfl rfl rfl rfl ?_ | refine L_makeFunc rfl rfl rfl ?_ | with_reducible refine inblk_n ?_ | with_reducible refine then_n ?_ | refine A_block ?_ | refine A_skip ?_ | refine A_exit ?_ | refine A_cond (b := true) rfl (fun _ => ?_) (fun h => by cases h) | refine A_cond (b := false) rfl (fun h => by cases h) (fun _ => ?_) | refine L_index tok rfl rfl rfl (by omega) (row_map (by assumption)) rfl rfl ?_ | refine L_index tok rfl rfl rfl (by omega) (row_mapI (by assumption)) rfl rfl ?_))
    refine A_inv (α := Nat × Int) (fun q => [(5, i64 q.1), (4, i64 q.2), (0, strA s)]) (fun q => []) (fun q => s.size - q.1) (fun q => q.1 ≤ s.size ∧ ∃ v : Nat, q.2 = v ∧ v < 10 ^ q.1 ∧ numGo v ((bl s).drop q.1) = numGo 0 (bl s)) (0, 0) ⟨by simp only; omega, 0, rfl, by simp, by simp⟩ (by (repeat (first | exact subT_nil | refine subT_cons rfl ?_))) (by first | exact subH_nil | exact subH_cons rfl subH_nil | exact subH_cons rfl (subH_cons rfl subH_nil) | exact subH_cons rfl (subH_cons rfl (subH_cons rfl subH_nil)) | exact subH_cons rfl (subH_cons rfl (subH_cons rfl (subH_cons rfl subH_nil)))) ?_
    rintro ⟨k, v⟩ ⟨hk, vn, hv, hlt, hgo⟩
    simp only at hk hv hlt hgo
    subst hv
    (repeat (first | refine L_int tok rfl (by constructor <;> omega) rfl rfl ?_ | refine L_lenMap tok rfl rfl rfl rfl ?_ | refine L_calm tok rfl rfl rfl ?_ | refine L_nil ?_ | refine A_seq ?_ | refine A_region (lf := lfT) ?_ | refine A_region_drawn (lf := lf0) mixed (by kernel_rfl) rfl ?_ | refine L_skip rfl rfl ?_ | refine L_box rfl rfl rfl rfl rfl rfl rfl rfl ?_ | refine L_alloc tok rfl rfl rfl rfl rfl rfl rfl ?_ | refine L_store tok rfl rfl rfl rfl rfl rfl rfl rfl rfl ?_ | refine L_build tok rfl rfl rfl rfl rfl rfl ?_ | refine L_buildSlice tok rfl rfl rfl rfl rfl rfl rfl rfl rfl ?_ | refine L_makeFunc rfl rfl rfl ?_ | with_reducible refine inblk_n ?_ | with_reducible refine then_n ?_ | refine A_block ?_ | refine A_skip ?_ | refine A_exit ?_ | refine A_cond (b := true) rfl (fun _ => ?_) (fun h => by cases h) | refine A_cond (b := false) rfl (fun h => by cases h) (fun _ => ?_) | refine L_index tok rfl rfl rfl (by omega) (row_map (by assumption)) rfl rfl ?_ | refine L_index tok rfl rfl rfl (by omega) (row_mapI (by assumption)) rfl rfl ?_))
    refine A_cond rfl (fun h5 => ?_) (fun h5 => ?_)
    · simp at h5
      obtain ⟨c, hc, hbc, hdr⟩ := getB h5
      rw [hdr] at hgo
      have hv5 := num_pow hlt (show k < 6 by omega)
      have hcl := c.toNat_lt
      (repeat (first | refine L_int tok rfl (by constructor <;> omega) rfl rfl ?_ | refine L_lenMap tok rfl rfl rfl rfl ?_ | refine L_calm tok rfl rfl rfl ?_ | refine L_nil ?_ | refine A_seq ?_ | refine A_region (lf := lfT) ?_ | refine A_region_drawn (lf := lf0) mixed (by kernel_rfl) rfl ?_ | refine L_skip rfl rfl ?_ | refine L_box rfl rfl rfl rfl rfl rfl rfl rfl ?_ | refine L_alloc tok rfl rfl rfl rfl rfl rfl rfl ?_ | refine L_store tok rfl rfl rfl rfl rfl rfl rfl rfl rfl ?_ | refine L_build tok rfl rfl rfl rfl rfl rfl ?_ | refine L_buildSlice tok rfl rfl rfl rfl rfl rfl rfl rfl rfl ?_ | refine L_makeFunc rfl rfl rfl ?_ | with_reducible refine inblk_n ?_ | with_reducible refine then_n ?_ | refine A_block ?_ | refine A_skip ?_ | refine A_exit ?_ | refine A_cond (b := true) rfl (fun _ => ?_) (fun h => by cases h) | refine A_cond (b := false) rfl (fun h => by cases h) (fun _ => ?_) | refine L_index tok rfl rfl rfl (by omega) (row_map (by assumption)) rfl rfl ?_ | refine L_index tok rfl rfl rfl (by omega) (row_mapI (by assumption)) rfl rfl ?_ | refine L_sindex tok rfl rfl rfl (by omega) hc rfl rfl ?_))
      refine L_split 34 rfl (fun h6 => ?_) (fun h6 => ?_)
      · simp at h6
        (repeat (first | refine L_int tok rfl (by constructor <;> omega) rfl rfl ?_ | refine L_lenMap tok rfl rfl rfl rfl ?_ | refine L_calm tok rfl rfl rfl ?_ | refine L_nil ?_ | refine A_seq ?_ | refine A_region (lf := lfT) ?_ | refine A_region_drawn (lf := lf0) mixed (by kernel_rfl) rfl ?_ | refine L_skip rfl rfl ?_ | refine L_box rfl rfl rfl rfl rfl rfl rfl rfl ?_ | refine L_alloc tok rfl rfl rfl rfl rfl rfl rfl ?_ | refine L_store tok rfl rfl rfl rfl rfl rfl rfl rfl rfl ?_ | refine L_build tok rfl rfl rfl rfl rfl rfl ?_ | refine L_buildSlice tok rfl rfl rfl rfl rfl rfl rfl rfl rfl ?_ | refine L_makeFunc rfl rfl rfl ?_ | with_reducible refine inblk_n ?_ | with_reducible refine then_n ?_ | refine A_block ?_ | refine A_skip ?_ | refine A_exit ?_ | refine A_cond (b := true) rfl (fun _ => ?_) (fun h => by cases h) | refine A_cond (b := false) rfl (fun h => by cases h) (fun _ => ?_) | refine L_index tok rfl rfl rfl (by omega) (row_map (by assumption)) rfl rfl ?_ | refine L_index tok rfl rfl rfl (by omega) (row_mapI (by assumption)) rfl rfl ?_))
        refine A_ret ?_; refine ⟨_, rfl, ?_⟩
        have : numberO (bl s) = none := by rw [numberO_ok hg, ← hgo]; simp [numGo]; omega
        exact frz_num (by simp [this]) (by simp [this])
      simp at h6
      (repeat (first | refine L_int tok rfl (by constructor <;> omega) rfl rfl ?_ | refine L_lenMap tok rfl rfl rfl rfl ?_ | refine L_calm tok rfl rfl rfl ?_ | refine L_nil ?_ | refine A_seq ?_ | refine A_region (lf := lfT) ?_ | refine A_region_drawn (lf := lf0) mixed (by kernel_rfl) rfl ?_ | refine L_skip rfl rfl ?_ | refine L_box rfl rfl rfl rfl rfl rfl rfl rfl ?_ | refine L_alloc tok rfl rfl rfl rfl rfl rfl rfl ?_ | refine L_store tok rfl rfl rfl rfl rfl rfl rfl rfl rfl ?_ | refine L_build tok rfl rfl rfl rfl rfl rfl ?_ | refine L_buildSlice tok rfl rfl rfl rfl rfl rfl rfl rfl rfl ?_ | refine L_makeFunc rfl rfl rfl ?_ | with_reducible refine inblk_n ?_ | with_reducible refine then_n ?_ | refine A_block ?_ | refine A_skip ?_ | refine A_exit ?_ | refine A_cond (b := true) rfl (fun _ => ?_) (fun h => by cases h) | refine A_cond (b := false) rfl (fun h => by cases h) (fun _ => ?_) | refine L_index tok rfl rfl rfl (by omega) (row_map (by assumption)) rfl rfl ?_ | refine L_index tok rfl rfl rfl (by omega) (row_mapI (by assumption)) rfl rfl ?_ | refine L_sindex tok rfl rfl rfl (by omega) hc rfl rfl ?_))
      refine A_cond rfl (fun h7 => ?_) (fun h7 => ?_)
      · simp at h7
        (repeat (first | refine L_int tok rfl (by constructor <;> omega) rfl rfl ?_ | refine L_lenMap tok rfl rfl rfl rfl ?_ | refine L_calm tok rfl rfl rfl ?_ | refine L_nil ?_ | refine A_seq ?_ | refine A_region (lf := lfT) ?_ | refine A_region_drawn (lf := lf0) mixed (by kernel_rfl) rfl ?_ | refine L_skip rfl rfl ?_ | refine L_box rfl rfl rfl rfl rfl rfl rfl rfl ?_ | refine L_alloc tok rfl rfl rfl rfl rfl rfl rfl ?_ | refine L_store tok rfl rfl rfl rfl rfl rfl rfl rfl rfl ?_ | refine L_build tok rfl rfl rfl rfl rfl rfl ?_ | refine L_buildSlice tok rfl rfl rfl rfl rfl rfl rfl rfl rfl ?_ | refine L_makeFunc rfl rfl rfl ?_ | with_reducible refine inblk_n ?_ | with_reducible refine then_n ?_ | refine A_block ?_ | refine A_skip ?_ | refine A_exit ?_ | refine A_cond (b := true) rfl (fun _ => ?_) (fun h => by cases h) | refine A_cond (b := false) rfl (fun h => by cases h) (fun _ => ?_) | refine L_index tok rfl rfl rfl (by omega) (row_map (by assumption)) rfl rfl ?_ | refine L_index tok rfl rfl rfl (by omega) (row_mapI (by assumption)) rfl rfl ?_))
        refine A_ret ?_; refine ⟨_, rfl, ?_⟩
        have : numberO (bl s) = none := by rw [numberO_ok hg, ← hgo]; simp [numGo]; omega
        exact frz_num (by simp [this]) (by simp [this])
      simp at h7
      (repeat (first | refine L_u8 tok rfl (by constructor <;> omega) rfl rfl ?_ | refine L_int tok rfl (by constructor <;> omega) rfl rfl ?_ | refine L_lenMap tok rfl rfl rfl rfl ?_ | refine L_calm tok rfl rfl rfl ?_ | refine L_nil ?_ | refine A_seq ?_ | refine A_region (lf := lfT) ?_ | refine A_region_drawn (lf := lf0) mixed (by kernel_rfl) rfl ?_ | refine L_skip rfl rfl ?_ | refine L_box rfl rfl rfl rfl rfl rfl rfl rfl ?_ | refine L_alloc tok rfl rfl rfl rfl rfl rfl rfl ?_ | refine L_store tok rfl rfl rfl rfl rfl rfl rfl rfl rfl ?_ | refine L_build tok rfl rfl rfl rfl rfl rfl ?_ | refine L_buildSlice tok rfl rfl rfl rfl rfl rfl rfl rfl rfl ?_ | refine L_makeFunc rfl rfl rfl ?_ | with_reducible refine inblk_n ?_ | with_reducible refine then_n ?_ | refine A_block ?_ | refine A_skip ?_ | refine A_exit ?_ | refine A_cond (b := true) rfl (fun _ => ?_) (fun h => by cases h) | refine A_cond (b := false) rfl (fun h => by cases h) (fun _ => ?_) | refine L_index tok rfl rfl rfl (by omega) (row_map (by assumption)) rfl rfl ?_ | refine L_index tok rfl rfl rfl (by omega) (row_mapI (by assumption)) rfl rfl ?_ | refine L_sindex tok rfl rfl rfl (by omega) hc rfl rfl ?_))
      refine rnd (k + 1, _) ⟨by simp only; omega, 10 * vn + (c.toNat - 48), ?_, num_next hlt (by omega), ?_⟩ (by simp only; omega) (by (repeat (first | exact subT_nil | refine subT_cons rfl ?_))) (by first | exact subH_nil | exact subH_cons rfl subH_nil | exact subH_cons rfl (subH_cons rfl subH_nil) | exact subH_cons rfl (subH_cons rfl (subH_cons rfl subH_nil)) | exact subH_cons rfl (subH_cons rfl (subH_cons rfl (subH_cons rfl subH_nil))))
      · simp only; omega
      · rw [← hgo]
        simp only [numGo]
        rw [if_neg (by omega)]
    · simp at h5
      obtain rfl : k = s.size := by omega
      rw [show (bl s).drop s.size = [] by rw [← bl_len]; simp] at hgo
      (repeat (first | refine L_int tok rfl (by constructor <;> omega) rfl rfl ?_ | refine L_lenMap tok rfl rfl rfl rfl ?_ | refine L_calm tok rfl rfl rfl ?_ | refine L_nil ?_ | refine A_seq ?_ | refine A_region (lf := lfT) ?_ | refine A_region_drawn (lf := lf0) mixed (by kernel_rfl) rfl ?_ | refine L_skip rfl rfl ?_ | refine L_box rfl rfl rfl rfl rfl rfl rfl rfl ?_ | refine L_alloc tok rfl rfl rfl rfl rfl rfl rfl ?_ | refine L_store tok rfl rfl rfl rfl rfl rfl rfl rfl rfl ?_ | refine L_build tok rfl rfl rfl rfl rfl rfl ?_ | refine L_buildSlice tok rfl rfl rfl rfl rfl rfl rfl rfl rfl ?_ | refine L_makeFunc rfl rfl rfl ?_ | with_reducible refine inblk_n ?_ | with_reducible refine then_n ?_ | refine A_block ?_ | refine A_skip ?_ | refine A_exit ?_ | refine A_cond (b := true) rfl (fun _ => ?_) (fun h => by cases h) | refine A_cond (b := false) rfl (fun h => by cases h) (fun _ => ?_) | refine L_index tok rfl rfl rfl (by omega) (row_map (by assumption)) rfl rfl ?_ | refine L_index tok rfl rfl rfl (by omega) (row_mapI (by assumption)) rfl rfl ?_))
      refine A_ret ?_; refine ⟨_, rfl, ?_⟩
      have : numberO (bl s) = some vn := by rw [numberO_ok hg, ← hgo]; rfl
      exact frz_num (by simp [this]) (by simp [this])

theorem trimSuffix_con (s p : ByteArray) (hs : s.size ≤ 100000) : Con Tryd.prog 32 [strA s, strA p] (strA (ba (Lib.trimSuffix (bl s) (bl p)))) := by
  refine con_of_calls ⟨_, Tryd.func32, rfl, rfl⟩ fun w us ok hok h => ?_
  obtain ⟨u, v, rfl, h1, h2⟩ := relAll2 h
  cases h1; cases h2
  refine (Tryd.strings_TrimSuffix s p w (by omega)).mono ?_
  rintro e w' ⟨rfl, rfl⟩
  exact ⟨rfl, Below.refl _ _⟩

theorem cell_new {w : World} {cs : Array Value} {e : TypeId} {i : Nat} : (w.alloc (.cells cs e)).cell? ⟨w.heap.size, i, none⟩ = cs[i]? := by
  have h : (w.alloc (.cells cs e)).heap[w.heap.size]? = some (.cells cs e) := by show (w.heap.push _)[w.heap.size]? = _; simp
  simp only [World.cell?, h]
  rfl
theorem relNew {w : World} {e : TypeId} {ok : Nat → Prop} (vs : List Value) (h1 : ∀ v ∈ vs, v.oneCell' = true) (hok : ok w.heap.size) (hl : vs.length ≤ maxLen) :
    Rel ok (w.alloc (.cells vs.toArray e)) (fun _ => none) (.sl 1 (vs.map fun v => [.v v])) (.slice (some ⟨w.heap.size, 0, none⟩) vs.length vs.length) := by
  have := Rel.sl (ok := ok) (w := w.alloc (.cells vs.toArray e)) (lv := fun _ => none) (size := 1) (rows := vs.map fun v => [AV.v v]) (some ⟨w.heap.size, 0, none⟩) vs.length (fun i _ => vs.getD i undef) w.heap.size 0 (by simp) hl (by simp) (by simp) (fun _ => ⟨rfl, hok⟩)
    (fun i j row c hi hj => by
      simp only [List.getElem?_map, Option.map_eq_some_iff] at hi
      obtain ⟨v, hv, rfl⟩ := hi
      match j with
      | 0 =>
        simp only [List.getElem?_cons_zero, Option.some.injEq] at hj
        subst hj
        refine ⟨?_, h1 v (List.mem_of_getElem? hv)⟩
        rw [cell_new]
        simp [List.getD_eq_getElem?_getD, hv]
      | j + 1 => simp at hj)
    (fun i j row c hi hj => by
      simp only [List.getElem?_map, Option.map_eq_some_iff] at hi
      obtain ⟨v, hv, rfl⟩ := hi
      match j with
      | 0 =>
        simp only [List.getElem?_cons_zero, Option.some.injEq] at hj
        subst hj
        simp only [List.getD_eq_getElem?_getD, hv, Option.getD_some]
        exact .v v
      | j + 1 => simp at hj)
  simpa using this
theorem split_con (s : ByteArray) (c : UInt8) (hs : s.size ≤ 100000) : Con Tryd.prog 31 [strA s, strA (ba [c])] (encStrs (splitL c (bl s))) := by
  refine ⟨⟨_, Tryd.func31, rfl, rfl⟩, rfl, fun ok0 w us hG hok h => ?_⟩
  obtain ⟨u, v, rfl, h1, h2⟩ := relAll2 h
  cases h1; cases h2
  obtain ⟨m, hm⟩ := hG.maxLen
  refine (Tryd.strings_Split s (ba [c]) m w (by omega) hm (by simp [ba_size])).mono ?_
  rintro e w' ⟨rfl, rfl⟩
  obtain ⟨e1, e2⟩ := splitB_one c s
  have hlen : ((splitL c (bl s)).map fun x => Value.string (ba x)).length = (splitL c (bl s)).length := by simp
  refine ⟨_, rfl, ?_, (Below.refl _ _).alloc (Nat.le_refl _) _⟩
  have := splitL_len c (bl s)
  rw [bl_len] at this
  have hr := relNew (w := w) (e := 9) (ok := fun g => (ok0 g ∨ w.heap.size ≤ g) ∧ g < (w.alloc (.cells ((splitL c (bl s)).map fun x => Value.string (ba x)).toArray 9)).heap.size) ((splitL c (bl s)).map fun x => Value.string (ba x)) (by simp [Value.oneCell']) ⟨.inr (Nat.le_refl _), by show _ < (w.heap.push _).size; simp⟩ (by simp only [hlen]; unfold maxLen; omega)
  rw [hlen, List.map_map] at hr
  rw [e1, e2, List.map_map]
  exact hr

theorem frz_eq {h : Nat → Option LObj} {x y : AV} (e : x = y) : Frz h x y := e ▸ Frz.pure
theorem ba_ext {a b : ByteArray} (h : bl a = bl b) : a = b := by rw [← ba_bl a, h, ba_bl]
theorem ba_nil {s : ByteArray} : s = ByteArray.empty ↔ bl s = [] := by
  constructor
  · rintro rfl; rfl
  · intro h; exact ba_ext h
theorem trim_len (l p : Bs) : (Lib.trimSuffix l p).length ≤ l.length := by
  unfold Lib.trimSuffix; split <;> simp
theorem lsplit_con (s : ByteArray) (hs : s.size ≤ 100000) : Con Tryd.prog 23 [strA s] (encStrs (linesF (bl s))) := by
  refine con_of Tryd.func23 rfl rfl Tryd.ntmps23 Tryd.results23 rfl rfl ?_
  (repeat (first | refine L_int tok rfl (by constructor <;> omega) rfl rfl ?_ | refine L_lenMap tok rfl rfl rfl rfl ?_ | refine L_calm tok rfl rfl rfl ?_ | refine L_nil ?_ | refine A_seq ?_ | refine A_region (lf := lfT) ?_ | refine A_region_drawn (lf := lf0) mixed (by kernel_rfl) rfl ?_ | refine L_skip rfl rfl ?_ | refine L_box rfl rfl rfl rfl rfl rfl rfl rfl ?_ | refine L_alloc tok rfl rfl rfl rfl rfl rfl rfl ?_ | refine L_store tok rfl rfl rfl rfl rfl rfl rfl rfl rfl ?_ | refine L_build tok rfl rfl rfl rfl rfl rfl ?_ | refine L_buildSlice tok rfl rfl rfl rfl rfl rfl rfl rfl rfl ?_ | refine L_makeFunc rfl rfl rfl ?_ | with_reducible refine inblk_n ?_ | with_reducible refine then_n ?_ | refine A_block ?_ | refine A_skip ?_ | refine A_exit ?_ | refine A_cond (b := true) rfl (fun _ => ?_) (fun h => by cases h) | refine A_cond (b := false) rfl (fun h => by cases h) (fun _ => ?_) | refine L_index tok rfl rfl rfl (by omega) (row_map (by assumption)) rfl rfl ?_ | refine L_index tok rfl rfl rfl (by omega) (row_mapI (by assumption)) rfl rfl ?_))
  refine A_cond rfl (fun h => ?_) (fun h => ?_)
  · rw [beq_bl] at h
    have hn : bl s = [] := of_decide_eq_true h
    (repeat (first | refine L_int tok rfl (by constructor <;> omega) rfl rfl ?_ | refine L_lenMap tok rfl rfl rfl rfl ?_ | refine L_calm tok rfl rfl rfl ?_ | refine L_nil ?_ | refine A_seq ?_ | refine A_region (lf := lfT) ?_ | refine A_region_drawn (lf := lf0) mixed (by kernel_rfl) rfl ?_ | refine L_skip rfl rfl ?_ | refine L_box rfl rfl rfl rfl rfl rfl rfl rfl ?_ | refine L_alloc tok rfl rfl rfl rfl rfl rfl rfl ?_ | refine L_store tok rfl rfl rfl rfl rfl rfl rfl rfl rfl ?_ | refine L_build tok rfl rfl rfl rfl rfl rfl ?_ | refine L_buildSlice tok rfl rfl rfl rfl rfl rfl rfl rfl rfl ?_ | refine L_makeFunc rfl rfl rfl ?_ | with_reducible refine inblk_n ?_ | with_reducible refine then_n ?_ | refine A_block ?_ | refine A_skip ?_ | refine A_exit ?_ | refine A_cond (b := true) rfl (fun _ => ?_) (fun h => by cases h) | refine A_cond (b := false) rfl (fun h => by cases h) (fun _ => ?_) | refine L_index tok rfl rfl rfl (by omega) (row_map (by assumption)) rfl rfl ?_ | refine L_index tok rfl rfl rfl (by omega) (row_mapI (by assumption)) rfl rfl ?_))
    refine A_ret ?_; refine ⟨_, rfl, ?_⟩
    rw [hn, linesF_nil]
    exact Frz.nil
  · rw [beq_bl] at h
    have hn : bl s ≠ [] := of_decide_eq_false h
    have hl := trim_len (bl s) [10]
    rw [bl_len] at hl
    (repeat (first | refine L_int tok rfl (by constructor <;> omega) rfl rfl ?_ | refine L_lenMap tok rfl rfl rfl rfl ?_ | refine L_calm tok rfl rfl rfl ?_ | refine L_nil ?_ | refine A_seq ?_ | refine A_region (lf := lfT) ?_ | refine A_region_drawn (lf := lf0) mixed (by kernel_rfl) rfl ?_ | refine L_skip rfl rfl ?_ | refine L_box rfl rfl rfl rfl rfl rfl rfl rfl ?_ | refine L_alloc tok rfl rfl rfl rfl rfl rfl rfl ?_ | refine L_store tok rfl rfl rfl rfl rfl rfl rfl rfl rfl ?_ | refine L_build tok rfl rfl rfl rfl rfl rfl ?_ | refine L_buildSlice tok rfl rfl rfl rfl rfl rfl rfl rfl rfl ?_ | refine L_makeFunc rfl rfl rfl ?_ | with_reducible refine inblk_n ?_ | with_reducible refine then_n ?_ | refine A_block ?_ | refine A_skip ?_ | refine A_exit ?_ | refine A_cond (b := true) rfl (fun _ => ?_) (fun h => by cases h) | refine A_cond (b := false) rfl (fun h => by cases h) (fun _ => ?_) | refine L_index tok rfl rfl rfl (by omega) (row_map (by assumption)) rfl rfl ?_ | refine L_index tok rfl rfl rfl (by omega) (row_mapI (by assumption)) rfl rfl ?_ | refine L_call rfl rfl (trimSuffix_con s (ba [10]) (by omega)) rfl rfl ?_ | refine L_call rfl rfl (split_con (ba (Lib.trimSuffix (bl s) (bl (ba [10])))) 10 (by rw [ba_size]; rw [bl_ba]; omega)) rfl rfl ?_))
    refine A_ret ?_; refine ⟨_, rfl, ?_⟩
    rw [linesF_trim hn]
    exact frz_eq (by rw [bl_ba, bl_ba])

def encB (l : List Bs) : List AV := l.map fun x => strA (ba x)
theorem ext_bl (s : ByteArray) (a b : Nat) : s.extract a b = ba (((bl s).take b).drop a) := by rw [← bl_extract, ba_bl]
theorem flat1 {α : Type} (f : α → AV) : ∀ l : List α, (l.map fun x => [f x]).flatten = l.map f
  | [] => rfl
  | x :: l => by simp only [List.map_cons, List.flatten_cons, flat1 f l, List.cons_append, List.nil_append]
theorem splitL_step {c x : UInt8} {l : Bs} {k f : Nat} {outs : List Bs} (hx : l[k]? = some x) (hf : f ≤ k) (h : splitL c (l.take k) = outs ++ [(l.take k).drop f]) :
    (x = c → splitL c (l.take (k + 1)) = (outs ++ [(l.take k).drop f]) ++ [(l.take (k + 1)).drop (k + 1)]) ∧ (x ≠ c → splitL c (l.take (k + 1)) = outs ++ [(l.take (k + 1)).drop f]) := by
  have hk : k < l.length := (List.getElem?_eq_some_iff.1 hx).1
  constructor
  · rintro rfl
    rw [take_next hx, splitL_snoc, h]
    congr 2
    rw [List.drop_eq_nil_of_le]
    simp; omega
  · intro hne
    rw [take_next hx, splitL_app h (by simp; exact fun e => hne e.symm)]
    congr 2
    rw [List.drop_append_of_le_length]
    simp; omega
theorem rsplit_con (s : ByteArray) (c : UInt8) (hs : s.size ≤ 100000) : Con Tryd.prog 35 [strA s, .v (.int .u8 c.toNat)] (encStrs (splitL c (bl s))) := by
  refine con_of Tryd.func35 rfl rfl Tryd.ntmps35 Tryd.results35 rfl rfl ?_
  (repeat (first | refine L_int tok rfl (by constructor <;> omega) rfl rfl ?_ | refine L_lenMap tok rfl rfl rfl rfl ?_ | refine L_calm tok rfl rfl rfl ?_ | refine L_nil ?_ | refine A_seq ?_ | refine A_region (lf := lfT) ?_ | refine A_region_drawn (lf := lf0) mixed (by kernel_rfl) rfl ?_ | refine L_skip rfl rfl ?_ | refine L_box rfl rfl rfl rfl rfl rfl rfl rfl ?_ | refine L_alloc tok rfl rfl rfl rfl rfl rfl rfl ?_ | refine L_store tok rfl rfl rfl rfl rfl rfl rfl rfl rfl ?_ | refine L_build tok rfl rfl rfl rfl rfl rfl ?_ | refine L_buildSlice tok rfl rfl rfl rfl rfl rfl rfl rfl rfl ?_ | refine L_makeFunc rfl rfl rfl ?_ | with_reducible refine inblk_n ?_ | with_reducible refine then_n ?_ | refine A_block ?_ | refine A_skip ?_ | refine A_exit ?_ | refine A_cond (b := true) rfl (fun _ => ?_) (fun h => by cases h) | refine A_cond (b := false) rfl (fun h => by cases h) (fun _ => ?_) | refine L_index tok rfl rfl rfl (by omega) (row_map (by assumption)) rfl rfl ?_ | refine L_index tok rfl rfl rfl (by omega) (row_mapI (by assumption)) rfl rfl ?_))
  refine A_own 5 5 1 rfl rfl rfl ?_
  refine A_inv (α := Nat × Nat × List Bs) (fun q => [(7, i64 q.1), (6, i64 q.2.1), (5, .ls 5 1 q.2.2.length), (0, strA s), (1, .v (.int .u8 c.toNat))]) (fun q => [(5, some (.vec (encB q.2.2)))]) (fun q => s.size - q.1)
    (fun q => q.1 ≤ s.size ∧ q.2.1 ≤ q.1 ∧ q.2.2.length ≤ q.1 ∧ splitL c ((bl s).take q.1) = q.2.2 ++ [((bl s).take q.1).drop q.2.1]) (0, 0, []) ⟨by simp only; omega, by simp only; omega, by simp, by simp [splitL]⟩ (by (repeat (first | exact subT_nil | refine subT_cons rfl ?_))) (by first | exact subH_nil | exact subH_cons rfl subH_nil | exact subH_cons rfl (subH_cons rfl subH_nil) | exact subH_cons rfl (subH_cons rfl (subH_cons rfl subH_nil)) | exact subH_cons rfl (subH_cons rfl (subH_cons rfl (subH_cons rfl subH_nil)))) ?_
  rintro ⟨k, f, outs⟩ ⟨hk, hf, ho, hsp⟩
  simp only at hk hf ho hsp
  (repeat (first | refine L_int tok rfl (by constructor <;> omega) rfl rfl ?_ | refine L_lenMap tok rfl rfl rfl rfl ?_ | refine L_calm tok rfl rfl rfl ?_ | refine L_nil ?_ | refine A_seq ?_ | refine A_region (lf := lfT) ?_ | refine A_region_drawn (lf := lf0) mixed (by kernel_rfl) rfl ?_ | refine L_skip rfl rfl ?_ | refine L_box rfl rfl rfl rfl rfl rfl rfl rfl ?_ | refine L_alloc tok rfl rfl rfl rfl rfl rfl rfl ?_ | refine L_store tok rfl rfl rfl rfl rfl rfl rfl rfl rfl ?_ | refine L_build tok rfl rfl rfl rfl rfl rfl ?_ | refine L_buildSlice tok rfl rfl rfl rfl rfl rfl rfl rfl rfl ?_ | refine L_makeFunc rfl rfl rfl ?_ | with_reducible refine inblk_n ?_ | with_reducible refine then_n ?_ | refine A_block ?_ | refine A_skip ?_ | refine A_exit ?_ | refine A_cond (b := true) rfl (fun _ => ?_) (fun h => by cases h) | refine A_cond (b := false) rfl (fun h => by cases h) (fun _ => ?_) | refine L_index tok rfl rfl rfl (by omega) (row_map (by assumption)) rfl rfl ?_ | refine L_index tok rfl rfl rfl (by omega) (row_mapI (by assumption)) rfl rfl ?_))
  refine A_cond rfl (fun h => ?_) (fun h => ?_)
  · simp at h
    obtain ⟨x, hx, hbx, hdr⟩ := getB h
    obtain ⟨st1, st2⟩ := splitL_step hbx hf hsp
    (repeat (first | refine L_int tok rfl (by constructor <;> omega) rfl rfl ?_ | refine L_lenMap tok rfl rfl rfl rfl ?_ | refine L_calm tok rfl rfl rfl ?_ | refine L_nil ?_ | refine A_seq ?_ | refine A_region (lf := lfT) ?_ | refine A_region_drawn (lf := lf0) mixed (by kernel_rfl) rfl ?_ | refine L_skip rfl rfl ?_ | refine L_box rfl rfl rfl rfl rfl rfl rfl rfl ?_ | refine L_alloc tok rfl rfl rfl rfl rfl rfl rfl ?_ | refine L_store tok rfl rfl rfl rfl rfl rfl rfl rfl rfl ?_ | refine L_build tok rfl rfl rfl rfl rfl rfl ?_ | refine L_buildSlice tok rfl rfl rfl rfl rfl rfl rfl rfl rfl ?_ | refine L_makeFunc rfl rfl rfl ?_ | with_reducible refine inblk_n ?_ | with_reducible refine then_n ?_ | refine A_block ?_ | refine A_skip ?_ | refine A_exit ?_ | refine A_cond (b := true) rfl (fun _ => ?_) (fun h => by cases h) | refine A_cond (b := false) rfl (fun h => by cases h) (fun _ => ?_) | refine L_index tok rfl rfl rfl (by omega) (row_map (by assumption)) rfl rfl ?_ | refine L_index tok rfl rfl rfl (by omega) (row_mapI (by assumption)) rfl rfl ?_ | refine L_sindex tok rfl rfl rfl (by omega) hx rfl rfl ?_))
    refine A_cond rfl (fun h1 => ?_) (fun h1 => ?_)
    · have e : x = c := by
        simp at h1
        exact UInt8.toNat_inj.1 (by omega)
      (repeat (first | refine L_int tok rfl (by constructor <;> omega) rfl rfl ?_ | refine L_lenMap tok rfl rfl rfl rfl ?_ | refine L_calm tok rfl rfl rfl ?_ | refine L_nil ?_ | refine A_seq ?_ | refine A_region (lf := lfT) ?_ | refine A_region_drawn (lf := lf0) mixed (by kernel_rfl) rfl ?_ | refine L_skip rfl rfl ?_ | refine L_box rfl rfl rfl rfl rfl rfl rfl rfl ?_ | refine L_alloc tok rfl rfl rfl rfl rfl rfl rfl ?_ | refine L_store tok rfl rfl rfl rfl rfl rfl rfl rfl rfl ?_ | refine L_build tok rfl rfl rfl rfl rfl rfl ?_ | refine L_buildSlice tok rfl rfl rfl rfl rfl rfl rfl rfl rfl ?_ | refine L_makeFunc rfl rfl rfl ?_ | with_reducible refine inblk_n ?_ | with_reducible refine then_n ?_ | refine A_block ?_ | refine A_skip ?_ | refine A_exit ?_ | refine A_cond (b := true) rfl (fun _ => ?_) (fun h => by cases h) | refine A_cond (b := false) rfl (fun h => by cases h) (fun _ => ?_) | refine L_index tok rfl rfl rfl (by omega) (row_map (by assumption)) rfl rfl ?_ | refine L_index tok rfl rfl rfl (by omega) (row_mapI (by assumption)) rfl rfl ?_ | refine L_sslice tok rfl rfl rfl rfl (by simp) (by simp; omega) (by simp; omega) rfl rfl ?_))
      refine L_append tok rfl rfl rfl (by simp [encB]) rfl (by simp [pureA]) (by simp; omega) rfl rfl rfl rfl rfl ?_
      (repeat (first | refine L_int tok rfl (by constructor <;> omega) rfl rfl ?_ | refine L_lenMap tok rfl rfl rfl rfl ?_ | refine L_calm tok rfl rfl rfl ?_ | refine L_nil ?_ | refine A_seq ?_ | refine A_region (lf := lfT) ?_ | refine A_region_drawn (lf := lf0) mixed (by kernel_rfl) rfl ?_ | refine L_skip rfl rfl ?_ | refine L_box rfl rfl rfl rfl rfl rfl rfl rfl ?_ | refine L_alloc tok rfl rfl rfl rfl rfl rfl rfl ?_ | refine L_store tok rfl rfl rfl rfl rfl rfl rfl rfl rfl ?_ | refine L_build tok rfl rfl rfl rfl rfl rfl ?_ | refine L_buildSlice tok rfl rfl rfl rfl rfl rfl rfl rfl rfl ?_ | refine L_makeFunc rfl rfl rfl ?_ | with_reducible refine inblk_n ?_ | with_reducible refine then_n ?_ | refine A_block ?_ | refine A_skip ?_ | refine A_exit ?_ | refine A_cond (b := true) rfl (fun _ => ?_) (fun h => by cases h) | refine A_cond (b := false) rfl (fun h => by cases h) (fun _ => ?_) | refine L_index tok rfl rfl rfl (by omega) (row_map (by assumption)) rfl rfl ?_ | refine L_index tok rfl rfl rfl (by omega) (row_mapI (by assumption)) rfl rfl ?_))
      refine rnd (k + 1, k + 1, outs ++ [((bl s).take k).drop f]) ⟨by simp only; omega, by simp only; omega, by simp; omega, st1 e⟩ (by simp only; omega) ?_ ?_
      · refine subT_cons rfl (subT_cons rfl (subT_cons (some_av rfl (ls_eq (by simp))) (by (repeat (first | exact subT_nil | refine subT_cons rfl ?_)))))
      · refine subH_cons ?_ subH_nil
        simp [hlook, encB, ext_bl, strA]
    · have e : x ≠ c := by
        rintro rfl
        simp at h1
      (repeat (first | refine L_int tok rfl (by constructor <;> omega) rfl rfl ?_ | refine L_lenMap tok rfl rfl rfl rfl ?_ | refine L_calm tok rfl rfl rfl ?_ | refine L_nil ?_ | refine A_seq ?_ | refine A_region (lf := lfT) ?_ | refine A_region_drawn (lf := lf0) mixed (by kernel_rfl) rfl ?_ | refine L_skip rfl rfl ?_ | refine L_box rfl rfl rfl rfl rfl rfl rfl rfl ?_ | refine L_alloc tok rfl rfl rfl rfl rfl rfl rfl ?_ | refine L_store tok rfl rfl rfl rfl rfl rfl rfl rfl rfl ?_ | refine L_build tok rfl rfl rfl rfl rfl rfl ?_ | refine L_buildSlice tok rfl rfl rfl rfl rfl rfl rfl rfl rfl ?_ | refine L_makeFunc rfl rfl rfl ?_ | with_reducible refine inblk_n ?_ | with_reducible refine then_n ?_ | refine A_block ?_ | refine A_skip ?_ | refine A_exit ?_ | refine A_cond (b := true) rfl (fun _ => ?_) (fun h => by cases h) | refine A_cond (b := false) rfl (fun h => by cases h) (fun _ => ?_) | refine L_index tok rfl rfl rfl (by omega) (row_map (by assumption)) rfl rfl ?_ | refine L_index tok rfl rfl rfl (by omega) (row_mapI (by assumption)) rfl rfl ?_))
      refine rnd (k + 1, f, outs) ⟨by simp only; omega, by simp only; omega, by simp only; omega, st2 e⟩ (by simp only; omega) (by (repeat (first | exact subT_nil | refine subT_cons rfl ?_))) (by first | exact subH_nil | exact subH_cons rfl subH_nil | exact subH_cons rfl (subH_cons rfl subH_nil) | exact subH_cons rfl (subH_cons rfl (subH_cons rfl subH_nil)) | exact subH_cons rfl (subH_cons rfl (subH_cons rfl (subH_cons rfl subH_nil))))
  · simp at h
    obtain rfl : k = s.size := by omega
    rw [show (bl s).take s.size = bl s by rw [← bl_len, List.take_length]] at hsp
    (repeat (first | refine L_int tok rfl (by constructor <;> omega) rfl rfl ?_ | refine L_lenMap tok rfl rfl rfl rfl ?_ | refine L_calm tok rfl rfl rfl ?_ | refine L_nil ?_ | refine A_seq ?_ | refine A_region (lf := lfT) ?_ | refine A_region_drawn (lf := lf0) mixed (by kernel_rfl) rfl ?_ | refine L_skip rfl rfl ?_ | refine L_box rfl rfl rfl rfl rfl rfl rfl rfl ?_ | refine L_alloc tok rfl rfl rfl rfl rfl rfl rfl ?_ | refine L_store tok rfl rfl rfl rfl rfl rfl rfl rfl rfl ?_ | refine L_build tok rfl rfl rfl rfl rfl rfl ?_ | refine L_buildSlice tok rfl rfl rfl rfl rfl rfl rfl rfl rfl ?_ | refine L_makeFunc rfl rfl rfl ?_ | with_reducible refine inblk_n ?_ | with_reducible refine then_n ?_ | refine A_block ?_ | refine A_skip ?_ | refine A_exit ?_ | refine A_cond (b := true) rfl (fun _ => ?_) (fun h => by cases h) | refine A_cond (b := false) rfl (fun h => by cases h) (fun _ => ?_) | refine L_index tok rfl rfl rfl (by omega) (row_map (by assumption)) rfl rfl ?_ | refine L_index tok rfl rfl rfl (by omega) (row_mapI (by assumption)) rfl rfl ?_ | refine L_sslice tok rfl rfl rfl rfl (by simp) (by simp; omega) (by simp) rfl rfl ?_))
    refine L_append tok rfl rfl rfl (by simp [encB]) rfl (by simp [pureA]) (by simp; omega) rfl rfl rfl rfl rfl ?_
    (repeat (first | refine L_int tok rfl (by constructor <;> omega) rfl rfl ?_ | refine L_lenMap tok rfl rfl rfl rfl ?_ | refine L_calm tok rfl rfl rfl ?_ | refine L_nil ?_ | refine A_seq ?_ | refine A_region (lf := lfT) ?_ | refine A_region_drawn (lf := lf0) mixed (by kernel_rfl) rfl ?_ | refine L_skip rfl rfl ?_ | refine L_box rfl rfl rfl rfl rfl rfl rfl rfl ?_ | refine L_alloc tok rfl rfl rfl rfl rfl rfl rfl ?_ | refine L_store tok rfl rfl rfl rfl rfl rfl rfl rfl rfl ?_ | refine L_build tok rfl rfl rfl rfl rfl rfl ?_ | refine L_buildSlice tok rfl rfl rfl rfl rfl rfl rfl rfl rfl ?_ | refine L_makeFunc rfl rfl rfl ?_ | with_reducible refine inblk_n ?_ | with_reducible refine then_n ?_ | refine A_block ?_ | refine A_skip ?_ | refine A_exit ?_ | refine A_cond (b := true) rfl (fun _ => ?_) (fun h => by cases h) | refine A_cond (b := false) rfl (fun h => by cases h) (fun _ => ?_) | refine L_index tok rfl rfl rfl (by omega) (row_map (by assumption)) rfl rfl ?_ | refine L_index tok rfl rfl rfl (by omega) (row_mapI (by assumption)) rfl rfl ?_))
    refine A_ret ?_; refine ⟨_, rfl, ?_⟩
    rw [hsp]
    refine Frz.ls rfl (by simp) (fun row hr => by obtain ⟨a, _, rfl⟩ := List.mem_map.1 hr; rfl) ?_ ?_
    · rw [flat1]
      simp [encB, ext_bl, strA, show (bl s).take s.size = bl s by rw [← bl_len, List.take_length]]
    · intro x hx i
      simp [encB] at hx
      rcases hx with ⟨a, _, rfl⟩ | rfl <;> rfl
theorem row_last {l : List Bs} {x : Bs} {ds : List Bs} (h : l = ds ++ [x]) : (l.map fun x => [strA (ba x)])[((l.length : Int) - 1).toNat]? = some [strA (ba x)] := by
  subst h
  have : (((ds ++ [x]).length : Int) - 1).toNat = ds.length := by simp
  rw [this]
  simp
theorem rlines_con (s : ByteArray) (hs : s.size ≤ 100000) : Con Tryd.prog 25 [strA s] (encStrs (linesF (bl s))) := by
  refine con_of Tryd.func25 rfl rfl Tryd.ntmps25 Tryd.results25 rfl rfl ?_
  have hne := splitL_ne 10 (bl s)
  have hlen := splitL_len 10 (bl s)
  rw [bl_len] at hlen
  have hpos : 0 < (splitL 10 (bl s)).length := List.length_pos_iff.2 hne
  obtain ⟨ds, x, hds⟩ : ∃ ds x, splitL 10 (bl s) = ds ++ [x] := ⟨_, _, (List.dropLast_concat_getLast hne).symm⟩
  obtain ⟨hl1, hl2⟩ := last_snoc hds hne
  (repeat (first | refine L_int tok rfl (by constructor <;> omega) rfl rfl ?_ | refine L_lenMap tok rfl rfl rfl rfl ?_ | refine L_calm tok rfl rfl rfl ?_ | refine L_nil ?_ | refine A_seq ?_ | refine A_region (lf := lfT) ?_ | refine A_region_drawn (lf := lf0) mixed (by kernel_rfl) rfl ?_ | refine L_skip rfl rfl ?_ | refine L_box rfl rfl rfl rfl rfl rfl rfl rfl ?_ | refine L_alloc tok rfl rfl rfl rfl rfl rfl rfl ?_ | refine L_store tok rfl rfl rfl rfl rfl rfl rfl rfl rfl ?_ | refine L_build tok rfl rfl rfl rfl rfl rfl ?_ | refine L_buildSlice tok rfl rfl rfl rfl rfl rfl rfl rfl rfl ?_ | refine L_makeFunc rfl rfl rfl ?_ | with_reducible refine inblk_n ?_ | with_reducible refine then_n ?_ | refine A_block ?_ | refine A_skip ?_ | refine A_exit ?_ | refine A_cond (b := true) rfl (fun _ => ?_) (fun h => by cases h) | refine A_cond (b := false) rfl (fun h => by cases h) (fun _ => ?_) | refine L_index tok rfl rfl rfl (by omega) (row_map (by assumption)) rfl rfl ?_ | refine L_index tok rfl rfl rfl (by omega) (row_mapI (by assumption)) rfl rfl ?_ | refine L_call rfl rfl (rsplit_con s 10 hs) rfl rfl ?_))
  refine L_index tok rfl rfl rfl (by omega) (row_last hds) rfl rfl ?_
  (repeat (first | refine L_int tok rfl (by constructor <;> omega) rfl rfl ?_ | refine L_lenMap tok rfl rfl rfl rfl ?_ | refine L_calm tok rfl rfl rfl ?_ | refine L_nil ?_ | refine A_seq ?_ | refine A_region (lf := lfT) ?_ | refine A_region_drawn (lf := lf0) mixed (by kernel_rfl) rfl ?_ | refine L_skip rfl rfl ?_ | refine L_box rfl rfl rfl rfl rfl rfl rfl rfl ?_ | refine L_alloc tok rfl rfl rfl rfl rfl rfl rfl ?_ | refine L_store tok rfl rfl rfl rfl rfl rfl rfl rfl rfl ?_ | refine L_build tok rfl rfl rfl rfl rfl rfl ?_ | refine L_buildSlice tok rfl rfl rfl rfl rfl rfl rfl rfl rfl ?_ | refine L_makeFunc rfl rfl rfl ?_ | with_reducible refine inblk_n ?_ | with_reducible refine then_n ?_ | refine A_block ?_ | refine A_skip ?_ | refine A_exit ?_ | refine A_cond (b := true) rfl (fun _ => ?_) (fun h => by cases h) | refine A_cond (b := false) rfl (fun h => by cases h) (fun _ => ?_) | refine L_index tok rfl rfl rfl (by omega) (row_map (by assumption)) rfl rfl ?_ | refine L_index tok rfl rfl rfl (by omega) (row_mapI (by assumption)) rfl rfl ?_))
  refine A_cond rfl (fun h => ?_) (fun h => ?_)
  · rw [beq_bl] at h
    have hx : x = [] := by have := of_decide_eq_true h; rwa [bl_ba] at this
    (repeat (first | refine L_int tok rfl (by constructor <;> omega) rfl rfl ?_ | refine L_lenMap tok rfl rfl rfl rfl ?_ | refine L_calm tok rfl rfl rfl ?_ | refine L_nil ?_ | refine A_seq ?_ | refine A_region (lf := lfT) ?_ | refine A_region_drawn (lf := lf0) mixed (by kernel_rfl) rfl ?_ | refine L_skip rfl rfl ?_ | refine L_box rfl rfl rfl rfl rfl rfl rfl rfl ?_ | refine L_alloc tok rfl rfl rfl rfl rfl rfl rfl ?_ | refine L_store tok rfl rfl rfl rfl rfl rfl rfl rfl rfl ?_ | refine L_build tok rfl rfl rfl rfl rfl rfl ?_ | refine L_buildSlice tok rfl rfl rfl rfl rfl rfl rfl rfl rfl ?_ | refine L_makeFunc rfl rfl rfl ?_ | with_reducible refine inblk_n ?_ | with_reducible refine then_n ?_ | refine A_block ?_ | refine A_skip ?_ | refine A_exit ?_ | refine A_cond (b := true) rfl (fun _ => ?_) (fun h => by cases h) | refine A_cond (b := false) rfl (fun h => by cases h) (fun _ => ?_) | refine L_index tok rfl rfl rfl (by omega) (row_map (by assumption)) rfl rfl ?_ | refine L_index tok rfl rfl rfl (by omega) (row_mapI (by assumption)) rfl rfl ?_ | refine L_slslice tok rfl rfl rfl rfl (by simp) (by simp; omega) (by simp; omega) rfl rfl ?_))
    refine A_ret ?_; refine ⟨_, rfl, ?_⟩
    refine frz_eq ?_
    unfold linesF
    rw [hl1, hl2, if_pos hx]
    simp [encStrs, hds]
  · rw [beq_bl] at h
    have hx : x ≠ [] := by have := of_decide_eq_false h; rwa [bl_ba] at this
    (repeat (first | refine L_int tok rfl (by constructor <;> omega) rfl rfl ?_ | refine L_lenMap tok rfl rfl rfl rfl ?_ | refine L_calm tok rfl rfl rfl ?_ | refine L_nil ?_ | refine A_seq ?_ | refine A_region (lf := lfT) ?_ | refine A_region_drawn (lf := lf0) mixed (by kernel_rfl) rfl ?_ | refine L_skip rfl rfl ?_ | refine L_box rfl rfl rfl rfl rfl rfl rfl rfl ?_ | refine L_alloc tok rfl rfl rfl rfl rfl rfl rfl ?_ | refine L_store tok rfl rfl rfl rfl rfl rfl rfl rfl rfl ?_ | refine L_build tok rfl rfl rfl rfl rfl rfl ?_ | refine L_buildSlice tok rfl rfl rfl rfl rfl rfl rfl rfl rfl ?_ | refine L_makeFunc rfl rfl rfl ?_ | with_reducible refine inblk_n ?_ | with_reducible refine then_n ?_ | refine A_block ?_ | refine A_skip ?_ | refine A_exit ?_ | refine A_cond (b := true) rfl (fun _ => ?_) (fun h => by cases h) | refine A_cond (b := false) rfl (fun h => by cases h) (fun _ => ?_) | refine L_index tok rfl rfl rfl (by omega) (row_map (by assumption)) rfl rfl ?_ | refine L_index tok rfl rfl rfl (by omega) (row_mapI (by assumption)) rfl rfl ?_))
    refine A_ret ?_; refine ⟨_, rfl, ?_⟩
    refine frz_eq ?_
    unfold linesF
    rw [hl1, if_neg hx]
end Go.Proofs.YtkjcjenkepejgaaDoor
