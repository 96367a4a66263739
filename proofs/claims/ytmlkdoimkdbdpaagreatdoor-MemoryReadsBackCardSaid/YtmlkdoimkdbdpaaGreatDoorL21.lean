/- Part 21 of the texts under MemoryReadsAndWrites,MemoryReadsBack: joined, with what it needs alone. -/
import Derived.Laws.StructEq
import Derived.Test.YtmlkdoimkdbdpaaGreatDoorL5
import Derived.Test.YtmlkdoimkdbdpaaGreatDoorL9
import Derived.Test.YtmlkdoimkdbdpaaGreatDoorL11
import Derived.Test.YtmlkdoimkdbdpaaGreatDoorL20
set_option linter.unusedVariables false
set_option maxRecDepth 100000
set_option maxHeartbeats 2000000
namespace Go.Proofs.YtmlkdoimkdbdpaaGreatDoor
open Go.RowKit

def numA (o : Option Nat) : AV := .tup [i64 (o.getD 0), yfp o.isSome]
def encStrs (l : List Bs) : AV := .sl 1 (l.map fun x => [yfd (ba x)])
theorem size_of_head {s : ByteArray} {c : UInt8} (h : s[0]? = some c) : (bl s).head? = some c := by
  have hlt : 0 < s.size := by
    rcases Nat.eq_zero_or_pos s.size with h0 | h0
    · rw [getElem?_neg s 0 (by omega)] at h; cases h
    · exact h0
  have : (bl s)[0]? = some ((bl s)[0]'(by rw [ydq]; exact hlt)) := List.getElem?_eq_getElem _
  have h2 := bl_get this
  rw [h] at h2
  cases h2
  rw [List.head?_eq_getElem?, this]
theorem get0 {s : ByteArray} (h : 0 < s.size) : ∃ c, s[0]? = some c ∧ (bl s).head? = some c := by
  refine ⟨s[0]'h, by rw [getElem?_pos s 0 h], ?_⟩
  exact size_of_head (by rw [getElem?_pos s 0 h])
theorem getB {s : ByteArray} {k : Nat} (h : k < s.size) : ∃ c, s[k]? = some c ∧ (bl s)[k]? = some c ∧ (bl s).drop k = c :: (bl s).drop (k + 1) := by
  have h1 : (bl s)[k]? = some ((bl s)[k]'(by rw [ydq]; exact h)) := List.getElem?_eq_getElem _
  exact ⟨_, bl_get h1, h1, List.drop_eq_getElem_cons _⟩
theorem num_pow {v k : Nat} (hv : v < 10 ^ k) (hk : k < 6) : v < 100000 := Nat.lt_of_lt_of_le hv (Nat.le_trans (Nat.pow_le_pow_right (n := 10) (by decide) (show k ≤ 5 by omega)) (by decide))
theorem num_next {v k c : Nat} (hv : v < 10 ^ k) (hc : c ≤ 57) : 10 * v + (c - 48) < 10 ^ (k + 1) := by rw [Nat.pow_succ]; omega
theorem frz_num {h : Nat → Option LObj} {a : Int} {b : Bool} {o : Option Nat} (h1 : a = ((o.getD 0 : Nat) : Int)) (h2 : b = o.isSome) : Frz h (.tup [.v (.int .i64 a), .v (.bool b)]) (numA o) := by
  subst h1 h2; exact Frz.pure
theorem ls_eq {id s a b : Nat} (h : a = b) : AV.ls id s a = .ls id s b := by rw [h]
theorem str_eq {a b : ByteArray} (h : a = b) : AV.v (.string a) = yfd b := by rw [h]; rfl
theorem numBad_of {s : ByteArray} {c0 : UInt8} (h1 : 1 ≤ s.size) (h2 : s.size ≤ 6) (hh : (bl s).head? = some c0) (h : s.size ≤ 1 ∨ c0.toNat ≠ 48) : yfm (bl s) = false := by
  have e1 : decide (s.size < 1) = false := decide_eq_false (by omega)
  have e2 : decide (6 < s.size) = false := decide_eq_false (by omega)
  simp only [yfm, ydq, hh, e1, e2, Bool.false_or]
  rcases h with h | h
  · have e3 : decide (1 < s.size) = false := decide_eq_false (by omega)
    simp only [e3, Bool.false_and]
  · rw [Bool.and_eq_false_iff]
    right
    rw [beq_eq_false_iff_ne]
    intro e
    cases e
    exact h rfl
theorem numBad_zero {s : ByteArray} {c0 : UInt8} (h1 : 1 < s.size) (hh : (bl s).head? = some c0) (h : c0.toNat = 48) : yfm (bl s) = true := by
  have e : c0 = 48 := UInt8.toNat_inj.1 h
  have e3 : decide (1 < s.size) = true := decide_eq_true h1
  simp [yfm, ydq, hh, e, e3]
theorem numBad_short {s : ByteArray} (h : s.size < 1) : yfm (bl s) = true := by
  have e : decide (s.size < 1) = true := decide_eq_true h
  simp only [yfm, ydq, e, Bool.true_or]
theorem numBad_long {s : ByteArray} (h : 6 < s.size) : yfm (bl s) = true := by
  have e : decide (6 < s.size) = true := decide_eq_true h
  simp only [yfm, ydq, e, Bool.true_or, Bool.or_true]
theorem beq_bl (a b : ByteArray) : (a.toList == b.toList) = decide (bl a = bl b) := by
  rw [Lib.toList_data, Lib.toList_data]; unfold bl; rw [Bool.eq_iff_iff]; simp
theorem ycq {l : Bs} (h : yfm l = true) : ycb l = none := by simp [ycb, h]
theorem numberO_ok {l : Bs} (h : yfm l = false) : ycb l = numGo 0 l := by simp [ycb, h]

theorem number_con (s : ByteArray) (hs : s.size ≤ 100000) : Con Tryz.prog 69 [yfd s] (numA (ycb (bl s))) := by
  refine ybs Tryz.func69 rfl rfl Tryz.ntmps69 Tryz.results69 rfl rfl ?_
  (repeat (first | refine zI ?_ | refine zL ?_ | refine zC ?_ | refine yai ?_ | refine yaj ?_ | refine zR ?_ | refine zD ?_ | refine zK ?_ | refine zB ?_ | refine zA ?_ | refine zS ?_ | refine zU ?_ | refine zV ?_ | refine zF ?_ | with_reducible refine yac ?_ | with_reducible refine yag ?_ | refine yad ?_ | refine yae ?_ | refine yaf ?_ | refine zT ?_ | refine zE ?_ | refine zX ?_))
  refine ybm 10 rfl (fun h1 => ?_) (fun h1 => ?_)
  · simp at h1
    (repeat (first | refine zI ?_ | refine zL ?_ | refine zC ?_ | refine yai ?_ | refine yaj ?_ | refine zR ?_ | refine zD ?_ | refine zK ?_ | refine zB ?_ | refine zA ?_ | refine zS ?_ | refine zU ?_ | refine zV ?_ | refine zF ?_ | with_reducible refine yac ?_ | with_reducible refine yag ?_ | refine yad ?_ | refine yae ?_ | refine yaf ?_ | refine zT ?_ | refine zE ?_ | refine zX ?_))
    refine yas ?_; refine ⟨_, rfl, ?_⟩
    have : yfm (bl s) = true := numBad_short (by omega)
    exact frz_num (by simp [ycq this]) (by simp [ycq this])
  simp at h1
  (repeat (first | refine zI ?_ | refine zL ?_ | refine zC ?_ | refine yai ?_ | refine yaj ?_ | refine zR ?_ | refine zD ?_ | refine zK ?_ | refine zB ?_ | refine zA ?_ | refine zS ?_ | refine zU ?_ | refine zV ?_ | refine zF ?_ | with_reducible refine yac ?_ | with_reducible refine yag ?_ | refine yad ?_ | refine yae ?_ | refine yaf ?_ | refine zT ?_ | refine zE ?_ | refine zX ?_))
  refine ybm 15 rfl (fun h2 => ?_) (fun h2 => ?_)
  · simp at h2
    (repeat (first | refine zI ?_ | refine zL ?_ | refine zC ?_ | refine yai ?_ | refine yaj ?_ | refine zR ?_ | refine zD ?_ | refine zK ?_ | refine zB ?_ | refine zA ?_ | refine zS ?_ | refine zU ?_ | refine zV ?_ | refine zF ?_ | with_reducible refine yac ?_ | with_reducible refine yag ?_ | refine yad ?_ | refine yae ?_ | refine yaf ?_ | refine zT ?_ | refine zE ?_ | refine zX ?_))
    refine yas ?_; refine ⟨_, rfl, ?_⟩
    have : yfm (bl s) = true := numBad_long (by omega)
    exact frz_num (by simp [ycq this]) (by simp [ycq this])
  simp at h2
  (repeat (first | refine zI ?_ | refine zL ?_ | refine zC ?_ | refine yai ?_ | refine yaj ?_ | refine zR ?_ | refine zD ?_ | refine zK ?_ | refine zB ?_ | refine zA ?_ | refine zS ?_ | refine zU ?_ | refine zV ?_ | refine zF ?_ | with_reducible refine yac ?_ | with_reducible refine yag ?_ | refine yad ?_ | refine yae ?_ | refine yaf ?_ | refine zT ?_ | refine zE ?_ | refine zX ?_))
  obtain ⟨c0, hc0, hh0⟩ := get0 (s := s) (by omega)
  refine ybm 19 rfl (fun h3 => ?_) (fun h3 => ?_)
  focus
    simp at h3
    (repeat (first | refine zI ?_ | refine zL ?_ | refine zC ?_ | refine yai ?_ | refine yaj ?_ | refine zR ?_ | refine zD ?_ | refine zK ?_ | refine zB ?_ | refine zA ?_ | refine zS ?_ | refine zU ?_ | refine zV ?_ | refine zF ?_ | with_reducible refine yac ?_ | with_reducible refine yag ?_ | refine yad ?_ | refine yae ?_ | refine yaf ?_ | refine zT ?_ | refine zE ?_ | refine zX ?_ | refine L_sindex tok rfl rfl rfl (by omega) hc0 rfl rfl ?_))
    refine yaq rfl (fun h4 => ?_) (fun h4 => ?_)
    · simp at h4
      (repeat (first | refine zI ?_ | refine zL ?_ | refine zC ?_ | refine yai ?_ | refine yaj ?_ | refine zR ?_ | refine zD ?_ | refine zK ?_ | refine zB ?_ | refine zA ?_ | refine zS ?_ | refine zU ?_ | refine zV ?_ | refine zF ?_ | with_reducible refine yac ?_ | with_reducible refine yag ?_ | refine yad ?_ | refine yae ?_ | refine yaf ?_ | refine zT ?_ | refine zE ?_ | refine zX ?_))
      refine yas ?_; refine ⟨_, rfl, ?_⟩
      have : yfm (bl s) = true := numBad_zero (by omega) hh0 (by omega)
      exact frz_num (by simp [ycq this]) (by simp [ycq this])
    simp at h4
    have hg := numBad_of (s := s) (by omega) (by omega) hh0 (.inr (by omega))
  rotate_left
  focus
    simp at h3
    have hg := numBad_of (s := s) (by omega) (by omega) hh0 (.inl (by omega))
  all_goals
    (repeat (first | refine zI ?_ | refine zL ?_ | refine zC ?_ | refine yai ?_ | refine yaj ?_ | refine zR ?_ | refine zD ?_ | refine zK ?_ | refine zB ?_ | refine zA ?_ | refine zS ?_ | refine zU ?_ | refine zV ?_ | refine zF ?_ | with_reducible refine yac ?_ | with_reducible refine yag ?_ | refine yad ?_ | refine yae ?_ | refine yaf ?_ | refine zT ?_ | refine zE ?_ | refine zX ?_))
    refine ydp (α := Nat × Int) (fun q => [(27, i64 q.1), (26, i64 s.size), (4, i64 q.2), (0, yfd s)]) (fun q => []) (fun q => s.size - q.1) (fun q => q.1 ≤ s.size ∧ ∃ v : Nat, q.2 = v ∧ v < 10 ^ q.1 ∧ numGo v ((bl s).drop q.1) = numGo 0 (bl s)) (0, 0) ⟨by simp only; omega, 0, rfl, by simp, by simp⟩ (by (repeat (first | exact yan | refine yak rfl ?_))) (by first | exact yab | exact yaa rfl yab | exact yaa rfl (yaa rfl yab) | exact yaa rfl (yaa rfl (yaa rfl yab)) | exact yaa rfl (yaa rfl (yaa rfl (yaa rfl yab)))) ?_
    rintro ⟨k, v⟩ ⟨hk, vn, hv, hlt, hgo⟩
    simp only at hk hv hlt hgo
    subst hv
    (repeat (first | refine zI ?_ | refine zL ?_ | refine zC ?_ | refine yai ?_ | refine yaj ?_ | refine zR ?_ | refine zD ?_ | refine zK ?_ | refine zB ?_ | refine zA ?_ | refine zS ?_ | refine zU ?_ | refine zV ?_ | refine zF ?_ | with_reducible refine yac ?_ | with_reducible refine yag ?_ | refine yad ?_ | refine yae ?_ | refine yaf ?_ | refine zT ?_ | refine zE ?_ | refine zX ?_))
    refine yaq rfl (fun h5 => ?_) (fun h5 => ?_)
    · simp at h5
      obtain ⟨c, hc, hbc, hdr⟩ := getB h5
      rw [hdr] at hgo
      have hv5 := num_pow hlt (show k < 6 by omega)
      have hcl := c.toNat_lt
      (repeat (first | refine zI ?_ | refine zL ?_ | refine zC ?_ | refine yai ?_ | refine yaj ?_ | refine zR ?_ | refine zD ?_ | refine zK ?_ | refine zB ?_ | refine zA ?_ | refine zS ?_ | refine zU ?_ | refine zV ?_ | refine zF ?_ | with_reducible refine yac ?_ | with_reducible refine yag ?_ | refine yad ?_ | refine yae ?_ | refine yaf ?_ | refine zT ?_ | refine zE ?_ | refine zX ?_ | refine L_sindex tok rfl rfl rfl (by omega) hc rfl rfl ?_))
      refine ybm 35 rfl (fun h6 => ?_) (fun h6 => ?_)
      · simp at h6
        (repeat (first | refine zI ?_ | refine zL ?_ | refine zC ?_ | refine yai ?_ | refine yaj ?_ | refine zR ?_ | refine zD ?_ | refine zK ?_ | refine zB ?_ | refine zA ?_ | refine zS ?_ | refine zU ?_ | refine zV ?_ | refine zF ?_ | with_reducible refine yac ?_ | with_reducible refine yag ?_ | refine yad ?_ | refine yae ?_ | refine yaf ?_ | refine zT ?_ | refine zE ?_ | refine zX ?_))
        refine yas ?_; refine ⟨_, rfl, ?_⟩
        have : ycb (bl s) = none := by rw [numberO_ok hg, ← hgo]; simp [numGo]; omega
        exact frz_num (by simp [this]) (by simp [this])
      simp at h6
      (repeat (first | refine zI ?_ | refine zL ?_ | refine zC ?_ | refine yai ?_ | refine yaj ?_ | refine zR ?_ | refine zD ?_ | refine zK ?_ | refine zB ?_ | refine zA ?_ | refine zS ?_ | refine zU ?_ | refine zV ?_ | refine zF ?_ | with_reducible refine yac ?_ | with_reducible refine yag ?_ | refine yad ?_ | refine yae ?_ | refine yaf ?_ | refine zT ?_ | refine zE ?_ | refine zX ?_))
      refine yaq rfl (fun h7 => ?_) (fun h7 => ?_)
      · simp at h7
        (repeat (first | refine zI ?_ | refine zL ?_ | refine zC ?_ | refine yai ?_ | refine yaj ?_ | refine zR ?_ | refine zD ?_ | refine zK ?_ | refine zB ?_ | refine zA ?_ | refine zS ?_ | refine zU ?_ | refine zV ?_ | refine zF ?_ | with_reducible refine yac ?_ | with_reducible refine yag ?_ | refine yad ?_ | refine yae ?_ | refine yaf ?_ | refine zT ?_ | refine zE ?_ | refine zX ?_))
        refine yas ?_; refine ⟨_, rfl, ?_⟩
        have : ycb (bl s) = none := by rw [numberO_ok hg, ← hgo]; simp [numGo]; omega
        exact frz_num (by simp [this]) (by simp [this])
      simp at h7
      (repeat (first | refine L_u8 tok rfl (by constructor <;> omega) rfl rfl ?_ | refine zI ?_ | refine zL ?_ | refine zC ?_ | refine yai ?_ | refine yaj ?_ | refine zR ?_ | refine zD ?_ | refine zK ?_ | refine zB ?_ | refine zA ?_ | refine zS ?_ | refine zU ?_ | refine zV ?_ | refine zF ?_ | with_reducible refine yac ?_ | with_reducible refine yag ?_ | refine yad ?_ | refine yae ?_ | refine yaf ?_ | refine zT ?_ | refine zE ?_ | refine zX ?_))
      refine rnd (k + 1, _) ⟨by simp only; omega, 10 * vn + (c.toNat - 48), ?_, num_next hlt (by omega), ?_⟩ (by simp only; omega) (by (repeat (first | exact yan | refine yak rfl ?_))) (by first | exact yab | exact yaa rfl yab | exact yaa rfl (yaa rfl yab) | exact yaa rfl (yaa rfl (yaa rfl yab)) | exact yaa rfl (yaa rfl (yaa rfl (yaa rfl yab))))
      · simp only; omega
      · rw [← hgo]
        simp only [numGo]
        rw [if_neg (by omega)]
    · simp at h5
      obtain rfl : k = s.size := by omega
      rw [show (bl s).drop s.size = [] by rw [← ydq]; simp] at hgo
      (repeat (first | refine zI ?_ | refine zL ?_ | refine zC ?_ | refine yai ?_ | refine yaj ?_ | refine zR ?_ | refine zD ?_ | refine zK ?_ | refine zB ?_ | refine zA ?_ | refine zS ?_ | refine zU ?_ | refine zV ?_ | refine zF ?_ | with_reducible refine yac ?_ | with_reducible refine yag ?_ | refine yad ?_ | refine yae ?_ | refine yaf ?_ | refine zT ?_ | refine zE ?_ | refine zX ?_))
      refine yas ?_; refine ⟨_, rfl, ?_⟩
      have : ycb (bl s) = some vn := by rw [numberO_ok hg, ← hgo]; rfl
      exact frz_num (by simp [this]) (by simp [this])
theorem rnumber_con (s : ByteArray) (hs : s.size ≤ 100000) : Con Tryz.prog 73 [yfd s] (numA (ycb (bl s))) := by
  refine ybs Tryz.func73 rfl rfl Tryz.ntmps73 Tryz.results73 rfl rfl ?_
  (repeat (first | refine zI ?_ | refine zL ?_ | refine zC ?_ | refine yai ?_ | refine yaj ?_ | refine zR ?_ | refine zD ?_ | refine zK ?_ | refine zB ?_ | refine zA ?_ | refine zS ?_ | refine zU ?_ | refine zV ?_ | refine zF ?_ | with_reducible refine yac ?_ | with_reducible refine yag ?_ | refine yad ?_ | refine yae ?_ | refine yaf ?_ | refine zT ?_ | refine zE ?_ | refine zX ?_))
  refine ybm 9 rfl (fun h1 => ?_) (fun h1 => ?_)
  · simp at h1
    (repeat (first | refine zI ?_ | refine zL ?_ | refine zC ?_ | refine yai ?_ | refine yaj ?_ | refine zR ?_ | refine zD ?_ | refine zK ?_ | refine zB ?_ | refine zA ?_ | refine zS ?_ | refine zU ?_ | refine zV ?_ | refine zF ?_ | with_reducible refine yac ?_ | with_reducible refine yag ?_ | refine yad ?_ | refine yae ?_ | refine yaf ?_ | refine zT ?_ | refine zE ?_ | refine zX ?_))
    refine yas ?_; refine ⟨_, rfl, ?_⟩
    have : yfm (bl s) = true := numBad_short (by omega)
    exact frz_num (by simp [ycq this]) (by simp [ycq this])
  simp at h1
  (repeat (first | refine zI ?_ | refine zL ?_ | refine zC ?_ | refine yai ?_ | refine yaj ?_ | refine zR ?_ | refine zD ?_ | refine zK ?_ | refine zB ?_ | refine zA ?_ | refine zS ?_ | refine zU ?_ | refine zV ?_ | refine zF ?_ | with_reducible refine yac ?_ | with_reducible refine yag ?_ | refine yad ?_ | refine yae ?_ | refine yaf ?_ | refine zT ?_ | refine zE ?_ | refine zX ?_))
  refine ybm 14 rfl (fun h2 => ?_) (fun h2 => ?_)
  · simp at h2
    (repeat (first | refine zI ?_ | refine zL ?_ | refine zC ?_ | refine yai ?_ | refine yaj ?_ | refine zR ?_ | refine zD ?_ | refine zK ?_ | refine zB ?_ | refine zA ?_ | refine zS ?_ | refine zU ?_ | refine zV ?_ | refine zF ?_ | with_reducible refine yac ?_ | with_reducible refine yag ?_ | refine yad ?_ | refine yae ?_ | refine yaf ?_ | refine zT ?_ | refine zE ?_ | refine zX ?_))
    refine yas ?_; refine ⟨_, rfl, ?_⟩
    have : yfm (bl s) = true := numBad_long (by omega)
    exact frz_num (by simp [ycq this]) (by simp [ycq this])
  simp at h2
  (repeat (first | refine zI ?_ | refine zL ?_ | refine zC ?_ | refine yai ?_ | refine yaj ?_ | refine zR ?_ | refine zD ?_ | refine zK ?_ | refine zB ?_ | refine zA ?_ | refine zS ?_ | refine zU ?_ | refine zV ?_ | refine zF ?_ | with_reducible refine yac ?_ | with_reducible refine yag ?_ | refine yad ?_ | refine yae ?_ | refine yaf ?_ | refine zT ?_ | refine zE ?_ | refine zX ?_))
  obtain ⟨c0, hc0, hh0⟩ := get0 (s := s) (by omega)
  refine ybm 18 rfl (fun h3 => ?_) (fun h3 => ?_)
  focus
    simp at h3
    (repeat (first | refine zI ?_ | refine zL ?_ | refine zC ?_ | refine yai ?_ | refine yaj ?_ | refine zR ?_ | refine zD ?_ | refine zK ?_ | refine zB ?_ | refine zA ?_ | refine zS ?_ | refine zU ?_ | refine zV ?_ | refine zF ?_ | with_reducible refine yac ?_ | with_reducible refine yag ?_ | refine yad ?_ | refine yae ?_ | refine yaf ?_ | refine zT ?_ | refine zE ?_ | refine zX ?_ | refine L_sindex tok rfl rfl rfl (by omega) hc0 rfl rfl ?_))
    refine yaq rfl (fun h4 => ?_) (fun h4 => ?_)
    · simp at h4
      (repeat (first | refine zI ?_ | refine zL ?_ | refine zC ?_ | refine yai ?_ | refine yaj ?_ | refine zR ?_ | refine zD ?_ | refine zK ?_ | refine zB ?_ | refine zA ?_ | refine zS ?_ | refine zU ?_ | refine zV ?_ | refine zF ?_ | with_reducible refine yac ?_ | with_reducible refine yag ?_ | refine yad ?_ | refine yae ?_ | refine yaf ?_ | refine zT ?_ | refine zE ?_ | refine zX ?_))
      refine yas ?_; refine ⟨_, rfl, ?_⟩
      have : yfm (bl s) = true := numBad_zero (by omega) hh0 (by omega)
      exact frz_num (by simp [ycq this]) (by simp [ycq this])
    simp at h4
    have hg := numBad_of (s := s) (by omega) (by omega) hh0 (.inr (by omega))
  rotate_left
  focus
    simp at h3
    have hg := numBad_of (s := s) (by omega) (by omega) hh0 (.inl (by omega))
  all_goals
    (repeat (first | refine zI ?_ | refine zL ?_ | refine zC ?_ | refine yai ?_ | refine yaj ?_ | refine zR ?_ | refine zD ?_ | refine zK ?_ | refine zB ?_ | refine zA ?_ | refine zS ?_ | refine zU ?_ | refine zV ?_ | refine zF ?_ | with_reducible refine yac ?_ | with_reducible refine yag ?_ | refine yad ?_ | refine yae ?_ | refine yaf ?_ | refine zT ?_ | refine zE ?_ | refine zX ?_))
    refine ydp (α := Nat × Int) (fun q => [(5, i64 q.1), (4, i64 q.2), (0, yfd s)]) (fun q => []) (fun q => s.size - q.1) (fun q => q.1 ≤ s.size ∧ ∃ v : Nat, q.2 = v ∧ v < 10 ^ q.1 ∧ numGo v ((bl s).drop q.1) = numGo 0 (bl s)) (0, 0) ⟨by simp only; omega, 0, rfl, by simp, by simp⟩ (by (repeat (first | exact yan | refine yak rfl ?_))) (by first | exact yab | exact yaa rfl yab | exact yaa rfl (yaa rfl yab) | exact yaa rfl (yaa rfl (yaa rfl yab)) | exact yaa rfl (yaa rfl (yaa rfl (yaa rfl yab)))) ?_
    rintro ⟨k, v⟩ ⟨hk, vn, hv, hlt, hgo⟩
    simp only at hk hv hlt hgo
    subst hv
    (repeat (first | refine zI ?_ | refine zL ?_ | refine zC ?_ | refine yai ?_ | refine yaj ?_ | refine zR ?_ | refine zD ?_ | refine zK ?_ | refine zB ?_ | refine zA ?_ | refine zS ?_ | refine zU ?_ | refine zV ?_ | refine zF ?_ | with_reducible refine yac ?_ | with_reducible refine yag ?_ | refine yad ?_ | refine yae ?_ | refine yaf ?_ | refine zT ?_ | refine zE ?_ | refine zX ?_))
    refine yaq rfl (fun h5 => ?_) (fun h5 => ?_)
    · simp at h5
      obtain ⟨c, hc, hbc, hdr⟩ := getB h5
      rw [hdr] at hgo
      have hv5 := num_pow hlt (show k < 6 by omega)
      have hcl := c.toNat_lt
      (repeat (first | refine zI ?_ | refine zL ?_ | refine zC ?_ | refine yai ?_ | refine yaj ?_ | refine zR ?_ | refine zD ?_ | refine zK ?_ | refine zB ?_ | refine zA ?_ | refine zS ?_ | refine zU ?_ | refine zV ?_ | refine zF ?_ | with_reducible refine yac ?_ | with_reducible refine yag ?_ | refine yad ?_ | refine yae ?_ | refine yaf ?_ | refine zT ?_ | refine zE ?_ | refine zX ?_ | refine L_sindex tok rfl rfl rfl (by omega) hc rfl rfl ?_))
      refine ybm 34 rfl (fun h6 => ?_) (fun h6 => ?_)
      · simp at h6
        (repeat (first | refine zI ?_ | refine zL ?_ | refine zC ?_ | refine yai ?_ | refine yaj ?_ | refine zR ?_ | refine zD ?_ | refine zK ?_ | refine zB ?_ | refine zA ?_ | refine zS ?_ | refine zU ?_ | refine zV ?_ | refine zF ?_ | with_reducible refine yac ?_ | with_reducible refine yag ?_ | refine yad ?_ | refine yae ?_ | refine yaf ?_ | refine zT ?_ | refine zE ?_ | refine zX ?_))
        refine yas ?_; refine ⟨_, rfl, ?_⟩
        have : ycb (bl s) = none := by rw [numberO_ok hg, ← hgo]; simp [numGo]; omega
        exact frz_num (by simp [this]) (by simp [this])
      simp at h6
      (repeat (first | refine zI ?_ | refine zL ?_ | refine zC ?_ | refine yai ?_ | refine yaj ?_ | refine zR ?_ | refine zD ?_ | refine zK ?_ | refine zB ?_ | refine zA ?_ | refine zS ?_ | refine zU ?_ | refine zV ?_ | refine zF ?_ | with_reducible refine yac ?_ | with_reducible refine yag ?_ | refine yad ?_ | refine yae ?_ | refine yaf ?_ | refine zT ?_ | refine zE ?_ | refine zX ?_ | refine L_sindex tok rfl rfl rfl (by omega) hc rfl rfl ?_))
      refine yaq rfl (fun h7 => ?_) (fun h7 => ?_)
      · simp at h7
        (repeat (first | refine zI ?_ | refine zL ?_ | refine zC ?_ | refine yai ?_ | refine yaj ?_ | refine zR ?_ | refine zD ?_ | refine zK ?_ | refine zB ?_ | refine zA ?_ | refine zS ?_ | refine zU ?_ | refine zV ?_ | refine zF ?_ | with_reducible refine yac ?_ | with_reducible refine yag ?_ | refine yad ?_ | refine yae ?_ | refine yaf ?_ | refine zT ?_ | refine zE ?_ | refine zX ?_))
        refine yas ?_; refine ⟨_, rfl, ?_⟩
        have : ycb (bl s) = none := by rw [numberO_ok hg, ← hgo]; simp [numGo]; omega
        exact frz_num (by simp [this]) (by simp [this])
      simp at h7
      (repeat (first | refine L_u8 tok rfl (by constructor <;> omega) rfl rfl ?_ | refine zI ?_ | refine zL ?_ | refine zC ?_ | refine yai ?_ | refine yaj ?_ | refine zR ?_ | refine zD ?_ | refine zK ?_ | refine zB ?_ | refine zA ?_ | refine zS ?_ | refine zU ?_ | refine zV ?_ | refine zF ?_ | with_reducible refine yac ?_ | with_reducible refine yag ?_ | refine yad ?_ | refine yae ?_ | refine yaf ?_ | refine zT ?_ | refine zE ?_ | refine zX ?_ | refine L_sindex tok rfl rfl rfl (by omega) hc rfl rfl ?_))
      refine rnd (k + 1, _) ⟨by simp only; omega, 10 * vn + (c.toNat - 48), ?_, num_next hlt (by omega), ?_⟩ (by simp only; omega) (by (repeat (first | exact yan | refine yak rfl ?_))) (by first | exact yab | exact yaa rfl yab | exact yaa rfl (yaa rfl yab) | exact yaa rfl (yaa rfl (yaa rfl yab)) | exact yaa rfl (yaa rfl (yaa rfl (yaa rfl yab))))
      · simp only; omega
      · rw [← hgo]
        simp only [numGo]
        rw [if_neg (by omega)]
    · simp at h5
      obtain rfl : k = s.size := by omega
      rw [show (bl s).drop s.size = [] by rw [← ydq]; simp] at hgo
      (repeat (first | refine zI ?_ | refine zL ?_ | refine zC ?_ | refine yai ?_ | refine yaj ?_ | refine zR ?_ | refine zD ?_ | refine zK ?_ | refine zB ?_ | refine zA ?_ | refine zS ?_ | refine zU ?_ | refine zV ?_ | refine zF ?_ | with_reducible refine yac ?_ | with_reducible refine yag ?_ | refine yad ?_ | refine yae ?_ | refine yaf ?_ | refine zT ?_ | refine zE ?_ | refine zX ?_))
      refine yas ?_; refine ⟨_, rfl, ?_⟩
      have : ycb (bl s) = some vn := by rw [numberO_ok hg, ← hgo]; rfl
      exact frz_num (by simp [this]) (by simp [this])

theorem trimSuffix_con (s p : ByteArray) (hs : s.size ≤ 100000) : Con Tryz.prog 48 [yfd s, yfd p] (yfd (ba (Lib.trimSuffix (bl s) (bl p)))) := by
  refine con_of_calls ⟨_, Tryz.func48, rfl, rfl⟩ fun w us ok hok h => ?_
  obtain ⟨u, v, rfl, h1, h2⟩ := relAll2 h
  cases h1; cases h2
  refine (Tryz.strings_TrimSuffix s p w (by omega)).mono ?_
  rintro e w' ⟨rfl, rfl⟩
  exact ⟨rfl, Below.refl _ _⟩

theorem cell_new {w : World} {cs : Array Value} {e : TypeId} {i : Nat} : (w.alloc (.cells cs e)).cell? ⟨w.heap.size, i, none⟩ = cs[i]? := by
  have h : (w.alloc (.cells cs e)).heap[w.heap.size]? = some (.cells cs e) := by show (w.heap.push _)[w.heap.size]? = _; simp
  simp only [World.cell?, h]
  rfl
theorem relNew {w : World} {e : TypeId} {ok : Nat → Prop} (vs : List Value) (h1 : ∀ v ∈ vs, v.oneCell' = true) (hok : ok w.heap.size) (hl : vs.length ≤ maxLen) :
    Rel ok (w.alloc (.cells vs.toArray e)) (fun _ => none) (.sl 1 (vs.map fun v => [.v v])) (.slice (some ⟨w.heap.size, 0, none⟩) vs.length vs.length) := by
  have := Rel.sl (ok := ok) (w := w.alloc (.cells vs.toArray e)) (lv := fun _ => none) (size := 1) (rows := vs.map fun v => [AV.v v]) (some ⟨w.heap.size, 0, none⟩) vs.length (fun i _ => vs.getD i undef) w.heap.size 0 (by simp) hl (by simp) (by simp) (fun _ => ⟨rfl, hok⟩)
    (fun i j row c hi hj => by
      simp only [List.getElem?_map, Option.map_eq_some_iff] at hi
      obtain ⟨v, hv, rfl⟩ := hi
      match j with
      | 0 =>
        simp only [List.getElem?_cons_zero, Option.some.injEq] at hj
        subst hj
        refine ⟨?_, h1 v (List.mem_of_getElem? hv)⟩
        rw [cell_new]
        simp [List.getD_eq_getElem?_getD, hv]
      | j + 1 => simp at hj)
    (fun i j row c hi hj => by
      simp only [List.getElem?_map, Option.map_eq_some_iff] at hi
      obtain ⟨v, hv, rfl⟩ := hi
      match j with
      | 0 =>
        simp only [List.getElem?_cons_zero, Option.some.injEq] at hj
        subst hj
        simp only [List.getD_eq_getElem?_getD, hv, Option.getD_some]
        exact .v v
      | j + 1 => simp at hj)
  simpa using this
theorem split_con (s : ByteArray) (c : UInt8) (hs : s.size ≤ 100000) : Con Tryz.prog 47 [yfd s, yfd (ba [c])] (encStrs (yaz c (bl s))) := by
  refine ⟨⟨_, Tryz.func47, rfl, rfl⟩, rfl, fun ok0 w us hG hok h => ?_⟩
  obtain ⟨u, v, rfl, h1, h2⟩ := relAll2 h
  cases h1; cases h2
  obtain ⟨m, hm⟩ := hG.maxLen
  refine (Tryz.strings_Split s (ba [c]) m w (by omega) hm (by simp [yda])).mono ?_
  rintro e w' ⟨rfl, rfl⟩
  obtain ⟨e1, e2⟩ := splitB_one c s
  have hlen : ((yaz c (bl s)).map fun x => Value.string (ba x)).length = (yaz c (bl s)).length := by simp
  refine ⟨_, rfl, ?_, (Below.refl _ _).alloc (Nat.le_refl _) _⟩
  have := splitL_len c (bl s)
  rw [ydq] at this
  have hr := relNew (w := w) (e := 9) (ok := fun g => (ok0 g ∨ w.heap.size ≤ g) ∧ g < (w.alloc (.cells ((yaz c (bl s)).map fun x => Value.string (ba x)).toArray 9)).heap.size) ((yaz c (bl s)).map fun x => Value.string (ba x)) (by simp [Value.oneCell']) ⟨.inr (Nat.le_refl _), by show _ < (w.heap.push _).size; simp⟩ (by simp only [hlen]; unfold maxLen; omega)
  rw [hlen, List.map_map] at hr
  rw [e1, e2, List.map_map]
  exact hr

theorem frz_eq {h : Nat → Option LObj} {x y : AV} (e : x = y) : Frz h x y := e ▸ Frz.pure
theorem ba_ext {a b : ByteArray} (h : bl a = bl b) : a = b := by rw [← ba_bl a, h, ba_bl]
theorem trim_len (l p : Bs) : (Lib.trimSuffix l p).length ≤ l.length := by
  unfold Lib.trimSuffix; split <;> simp
theorem lsplit_con (s : ByteArray) (hs : s.size ≤ 100000) : Con Tryz.prog 26 [yfd s] (encStrs (yex (bl s))) := by
  refine ybs Tryz.func26 rfl rfl Tryz.ntmps26 Tryz.results26 rfl rfl ?_
  (repeat (first | refine zI ?_ | refine zL ?_ | refine zC ?_ | refine yai ?_ | refine yaj ?_ | refine zR ?_ | refine zD ?_ | refine zK ?_ | refine zB ?_ | refine zA ?_ | refine zS ?_ | refine zU ?_ | refine zV ?_ | refine zF ?_ | with_reducible refine yac ?_ | with_reducible refine yag ?_ | refine yad ?_ | refine yae ?_ | refine yaf ?_ | refine zT ?_ | refine zE ?_ | refine zX ?_))
  refine yaq rfl (fun h => ?_) (fun h => ?_)
  · rw [beq_bl] at h
    have hn : bl s = [] := of_decide_eq_true h
    (repeat (first | refine zI ?_ | refine zL ?_ | refine zC ?_ | refine yai ?_ | refine yaj ?_ | refine zR ?_ | refine zD ?_ | refine zK ?_ | refine zB ?_ | refine zA ?_ | refine zS ?_ | refine zU ?_ | refine zV ?_ | refine zF ?_ | with_reducible refine yac ?_ | with_reducible refine yag ?_ | refine yad ?_ | refine yae ?_ | refine yaf ?_ | refine zT ?_ | refine zE ?_ | refine zX ?_))
    refine yas ?_; refine ⟨_, rfl, ?_⟩
    rw [hn, linesF_nil]
    exact Frz.nil
  · rw [beq_bl] at h
    have hn : bl s ≠ [] := of_decide_eq_false h
    have hl := trim_len (bl s) [10]
    rw [ydq] at hl
    (repeat (first | refine zI ?_ | refine zL ?_ | refine zC ?_ | refine yai ?_ | refine yaj ?_ | refine zR ?_ | refine zD ?_ | refine zK ?_ | refine zB ?_ | refine zA ?_ | refine zS ?_ | refine zU ?_ | refine zV ?_ | refine zF ?_ | with_reducible refine yac ?_ | with_reducible refine yag ?_ | refine yad ?_ | refine yae ?_ | refine yaf ?_ | refine zT ?_ | refine zE ?_ | refine zX ?_ | refine yar rfl rfl (trimSuffix_con s (ba [10]) (by omega)) rfl rfl ?_ | refine yar rfl rfl (split_con (ba (Lib.trimSuffix (bl s) (bl (ba [10])))) 10 (by rw [yda]; rw [bl_ba]; omega)) rfl rfl ?_))
    refine yas ?_; refine ⟨_, rfl, ?_⟩
    rw [linesF_trim hn]
    exact frz_eq (by rw [bl_ba, bl_ba])

def encB (l : List Bs) : List AV := l.map fun x => yfd (ba x)
theorem ext_bl (s : ByteArray) (a b : Nat) : s.extract a b = ba (((bl s).take b).drop a) := by rw [← bl_extract, ba_bl]
theorem flat1 {α : Type} (f : α → AV) : ∀ l : List α, (l.map fun x => [f x]).flatten = l.map f
  | [] => rfl
  | x :: l => by simp only [List.map_cons, List.flatten_cons, flat1 f l, List.cons_append, List.nil_append]
theorem splitL_step {c x : UInt8} {l : Bs} {k f : Nat} {outs : List Bs} (hx : l[k]? = some x) (hf : f ≤ k) (h : yaz c (l.take k) = outs ++ [(l.take k).drop f]) :
    (x = c → yaz c (l.take (k + 1)) = (outs ++ [(l.take k).drop f]) ++ [(l.take (k + 1)).drop (k + 1)]) ∧ (x ≠ c → yaz c (l.take (k + 1)) = outs ++ [(l.take (k + 1)).drop f]) := by
  have hk : k < l.length := (List.getElem?_eq_some_iff.1 hx).1
  constructor
  · rintro rfl
    rw [yeo hx, splitL_snoc, h]
    congr 2
    rw [List.drop_eq_nil_of_le]
    simp; omega
  · intro hne
    rw [yeo hx, splitL_app h (by simp; exact fun e => hne e.symm)]
    congr 2
    rw [List.drop_append_of_le_length]
    simp; omega
theorem rsplit_con (s : ByteArray) (c : UInt8) (hs : s.size ≤ 100000) : Con Tryz.prog 53 [yfd s, .v (.int .u8 c.toNat)] (encStrs (yaz c (bl s))) := by
  refine ybs Tryz.func53 rfl rfl Tryz.ntmps53 Tryz.results53 rfl rfl ?_
  (repeat (first | refine zI ?_ | refine zL ?_ | refine zC ?_ | refine yai ?_ | refine yaj ?_ | refine zR ?_ | refine zD ?_ | refine zK ?_ | refine zB ?_ | refine zA ?_ | refine zS ?_ | refine zU ?_ | refine zV ?_ | refine zF ?_ | with_reducible refine yac ?_ | with_reducible refine yag ?_ | refine yad ?_ | refine yae ?_ | refine yaf ?_ | refine zT ?_ | refine zE ?_ | refine zX ?_))
  refine A_own 5 5 1 rfl rfl rfl ?_
  refine ydp (α := Nat × Nat × List Bs) (fun q => [(7, i64 q.1), (6, i64 q.2.1), (5, .ls 5 1 q.2.2.length), (0, yfd s), (1, .v (.int .u8 c.toNat))]) (fun q => [(5, some (.vec (encB q.2.2)))]) (fun q => s.size - q.1)
    (fun q => q.1 ≤ s.size ∧ q.2.1 ≤ q.1 ∧ q.2.2.length ≤ q.1 ∧ yaz c ((bl s).take q.1) = q.2.2 ++ [((bl s).take q.1).drop q.2.1]) (0, 0, []) ⟨by simp only; omega, by simp only; omega, by simp, by simp [yaz]⟩ (by (repeat (first | exact yan | refine yak rfl ?_))) (by first | exact yab | exact yaa rfl yab | exact yaa rfl (yaa rfl yab) | exact yaa rfl (yaa rfl (yaa rfl yab)) | exact yaa rfl (yaa rfl (yaa rfl (yaa rfl yab)))) ?_
  rintro ⟨k, f, outs⟩ ⟨hk, hf, ho, hsp⟩
  simp only at hk hf ho hsp
  (repeat (first | refine zI ?_ | refine zL ?_ | refine zC ?_ | refine yai ?_ | refine yaj ?_ | refine zR ?_ | refine zD ?_ | refine zK ?_ | refine zB ?_ | refine zA ?_ | refine zS ?_ | refine zU ?_ | refine zV ?_ | refine zF ?_ | with_reducible refine yac ?_ | with_reducible refine yag ?_ | refine yad ?_ | refine yae ?_ | refine yaf ?_ | refine zT ?_ | refine zE ?_ | refine zX ?_))
  refine yaq rfl (fun h => ?_) (fun h => ?_)
  · simp at h
    obtain ⟨x, hx, hbx, hdr⟩ := getB h
    obtain ⟨st1, st2⟩ := splitL_step hbx hf hsp
    (repeat (first | refine zI ?_ | refine zL ?_ | refine zC ?_ | refine yai ?_ | refine yaj ?_ | refine zR ?_ | refine zD ?_ | refine zK ?_ | refine zB ?_ | refine zA ?_ | refine zS ?_ | refine zU ?_ | refine zV ?_ | refine zF ?_ | with_reducible refine yac ?_ | with_reducible refine yag ?_ | refine yad ?_ | refine yae ?_ | refine yaf ?_ | refine zT ?_ | refine zE ?_ | refine zX ?_ | refine L_sindex tok rfl rfl rfl (by omega) hx rfl rfl ?_))
    refine yaq rfl (fun h1 => ?_) (fun h1 => ?_)
    · have e : x = c := by
        simp at h1
        exact UInt8.toNat_inj.1 (by omega)
      (repeat (first | refine zI ?_ | refine zL ?_ | refine zC ?_ | refine yai ?_ | refine yaj ?_ | refine zR ?_ | refine zD ?_ | refine zK ?_ | refine zB ?_ | refine zA ?_ | refine zS ?_ | refine zU ?_ | refine zV ?_ | refine zF ?_ | with_reducible refine yac ?_ | with_reducible refine yag ?_ | refine yad ?_ | refine yae ?_ | refine yaf ?_ | refine zT ?_ | refine zE ?_ | refine zX ?_ | refine L_sslice tok rfl rfl rfl rfl (by simp) (by simp; omega) (by simp; omega) rfl rfl ?_))
      refine L_append tok rfl rfl rfl (by simp [encB]) rfl (by simp [ybl]) (by simp; omega) rfl rfl rfl rfl rfl ?_
      (repeat (first | refine zI ?_ | refine zL ?_ | refine zC ?_ | refine yai ?_ | refine yaj ?_ | refine zR ?_ | refine zD ?_ | refine zK ?_ | refine zB ?_ | refine zA ?_ | refine zS ?_ | refine zU ?_ | refine zV ?_ | refine zF ?_ | with_reducible refine yac ?_ | with_reducible refine yag ?_ | refine yad ?_ | refine yae ?_ | refine yaf ?_ | refine zT ?_ | refine zE ?_ | refine zX ?_))
      refine rnd (k + 1, k + 1, outs ++ [((bl s).take k).drop f]) ⟨by simp only; omega, by simp only; omega, by simp; omega, st1 e⟩ (by simp only; omega) ?_ ?_
      · refine yak rfl (yak rfl (yak (some_av rfl (ls_eq (by simp))) (by (repeat (first | exact yan | refine yak rfl ?_)))))
      · refine yaa ?_ yab
        simp [yap, encB, ext_bl, yfd]
    · have e : x ≠ c := by
        rintro rfl
        simp at h1
      (repeat (first | refine zI ?_ | refine zL ?_ | refine zC ?_ | refine yai ?_ | refine yaj ?_ | refine zR ?_ | refine zD ?_ | refine zK ?_ | refine zB ?_ | refine zA ?_ | refine zS ?_ | refine zU ?_ | refine zV ?_ | refine zF ?_ | with_reducible refine yac ?_ | with_reducible refine yag ?_ | refine yad ?_ | refine yae ?_ | refine yaf ?_ | refine zT ?_ | refine zE ?_ | refine zX ?_))
      refine rnd (k + 1, f, outs) ⟨by simp only; omega, by simp only; omega, by simp only; omega, st2 e⟩ (by simp only; omega) (by (repeat (first | exact yan | refine yak rfl ?_))) (by first | exact yab | exact yaa rfl yab | exact yaa rfl (yaa rfl yab) | exact yaa rfl (yaa rfl (yaa rfl yab)) | exact yaa rfl (yaa rfl (yaa rfl (yaa rfl yab))))
  · simp at h
    obtain rfl : k = s.size := by omega
    rw [show (bl s).take s.size = bl s by rw [← ydq, List.take_length]] at hsp
    (repeat (first | refine zI ?_ | refine zL ?_ | refine zC ?_ | refine yai ?_ | refine yaj ?_ | refine zR ?_ | refine zD ?_ | refine zK ?_ | refine zB ?_ | refine zA ?_ | refine zS ?_ | refine zU ?_ | refine zV ?_ | refine zF ?_ | with_reducible refine yac ?_ | with_reducible refine yag ?_ | refine yad ?_ | refine yae ?_ | refine yaf ?_ | refine zT ?_ | refine zE ?_ | refine zX ?_ | refine L_sslice tok rfl rfl rfl rfl (by simp) (by simp; omega) (by simp) rfl rfl ?_))
    refine L_append tok rfl rfl rfl (by simp [encB]) rfl (by simp [ybl]) (by simp; omega) rfl rfl rfl rfl rfl ?_
    (repeat (first | refine zI ?_ | refine zL ?_ | refine zC ?_ | refine yai ?_ | refine yaj ?_ | refine zR ?_ | refine zD ?_ | refine zK ?_ | refine zB ?_ | refine zA ?_ | refine zS ?_ | refine zU ?_ | refine zV ?_ | refine zF ?_ | with_reducible refine yac ?_ | with_reducible refine yag ?_ | refine yad ?_ | refine yae ?_ | refine yaf ?_ | refine zT ?_ | refine zE ?_ | refine zX ?_))
    refine yas ?_; refine ⟨_, rfl, ?_⟩
    rw [hsp]
    refine Frz.ls rfl (by simp) (fun row hr => by obtain ⟨a, _, rfl⟩ := List.mem_map.1 hr; rfl) ?_ ?_
    · rw [flat1]
      simp [encB, ext_bl, yfd, show (bl s).take s.size = bl s by rw [← ydq, List.take_length]]
    · intro x hx i
      simp [encB] at hx
      rcases hx with ⟨a, _, rfl⟩ | rfl <;> rfl
theorem row_last {l : List Bs} {x : Bs} {ds : List Bs} (h : l = ds ++ [x]) : (l.map fun x => [yfd (ba x)])[((l.length : Int) - 1).toNat]? = some [yfd (ba x)] := by
  subst h
  have : (((ds ++ [x]).length : Int) - 1).toNat = ds.length := by simp
  rw [this]
  simp
theorem rlines_con (s : ByteArray) (hs : s.size ≤ 100000) : Con Tryz.prog 29 [yfd s] (encStrs (yex (bl s))) := by
  refine ybs Tryz.func29 rfl rfl Tryz.ntmps29 Tryz.results29 rfl rfl ?_
  have hne := splitL_ne 10 (bl s)
  have hlen := splitL_len 10 (bl s)
  rw [ydq] at hlen
  have hpos : 0 < (yaz 10 (bl s)).length := List.length_pos_iff.2 hne
  obtain ⟨ds, x, hds⟩ : ∃ ds x, yaz 10 (bl s) = ds ++ [x] := ⟨_, _, (List.dropLast_concat_getLast hne).symm⟩
  obtain ⟨hl1, hl2⟩ := last_snoc hds hne
  (repeat (first | refine zI ?_ | refine zL ?_ | refine zC ?_ | refine yai ?_ | refine yaj ?_ | refine zR ?_ | refine zD ?_ | refine zK ?_ | refine zB ?_ | refine zA ?_ | refine zS ?_ | refine zU ?_ | refine zV ?_ | refine zF ?_ | with_reducible refine yac ?_ | with_reducible refine yag ?_ | refine yad ?_ | refine yae ?_ | refine yaf ?_ | refine zT ?_ | refine zE ?_ | refine zX ?_ | refine yar rfl rfl (rsplit_con s 10 hs) rfl rfl ?_))
  refine L_index tok rfl rfl rfl (by omega) (row_last hds) rfl rfl ?_
  (repeat (first | refine zI ?_ | refine zL ?_ | refine zC ?_ | refine yai ?_ | refine yaj ?_ | refine zR ?_ | refine zD ?_ | refine zK ?_ | refine zB ?_ | refine zA ?_ | refine zS ?_ | refine zU ?_ | refine zV ?_ | refine zF ?_ | with_reducible refine yac ?_ | with_reducible refine yag ?_ | refine yad ?_ | refine yae ?_ | refine yaf ?_ | refine zT ?_ | refine zE ?_ | refine zX ?_))
  refine yaq rfl (fun h => ?_) (fun h => ?_)
  · rw [beq_bl] at h
    have hx : x = [] := by have := of_decide_eq_true h; rwa [bl_ba] at this
    (repeat (first | refine zI ?_ | refine zL ?_ | refine zC ?_ | refine yai ?_ | refine yaj ?_ | refine zR ?_ | refine zD ?_ | refine zK ?_ | refine zB ?_ | refine zA ?_ | refine zS ?_ | refine zU ?_ | refine zV ?_ | refine zF ?_ | with_reducible refine yac ?_ | with_reducible refine yag ?_ | refine yad ?_ | refine yae ?_ | refine yaf ?_ | refine zT ?_ | refine zE ?_ | refine zX ?_ | refine L_slslice tok rfl rfl rfl rfl (by simp) (by simp; omega) (by simp; omega) rfl rfl ?_))
    refine yas ?_; refine ⟨_, rfl, ?_⟩
    refine frz_eq ?_
    unfold yex
    rw [hl1, hl2, if_pos hx]
    simp [encStrs, hds]
  · rw [beq_bl] at h
    have hx : x ≠ [] := by have := of_decide_eq_false h; rwa [bl_ba] at this
    (repeat (first | refine zI ?_ | refine zL ?_ | refine zC ?_ | refine yai ?_ | refine yaj ?_ | refine zR ?_ | refine zD ?_ | refine zK ?_ | refine zB ?_ | refine zA ?_ | refine zS ?_ | refine zU ?_ | refine zV ?_ | refine zF ?_ | with_reducible refine yac ?_ | with_reducible refine yag ?_ | refine yad ?_ | refine yae ?_ | refine yaf ?_ | refine zT ?_ | refine zE ?_ | refine zX ?_))
    refine yas ?_; refine ⟨_, rfl, ?_⟩
    refine frz_eq ?_
    unfold yex
    rw [hl1, if_neg hx]
end Go.Proofs.YtmlkdoimkdbdpaaGreatDoor
set_option linter.unusedVariables false
set_option maxRecDepth 100000
set_option maxHeartbeats 4000000
namespace Go.Proofs.YtmlkdoimkdbdpaaGreatDoor
open Go.RowKit

def addN (ids : List Int) (ports : List (List Lk)) : Except Nat (List Int × List (List Lk)) → Except Nat (List Int × List (List Lk))
  | .ok (a, b) => .ok (ids ++ a, ports ++ b)
  | .error e => .error e
theorem nodesF_next {ls : List Bs} {l : Bs} {k x : Nat} {lk : List Lk} {ids : List Int} {ports : List (List Lk)} (hl : ls[k]? = some l) (h : nodesF ls 0 = addN ids ports (nodesF (ls.drop k) k)) (hn : nodeF l = some (x, lk)) : nodesF ls 0 = addN (ids ++ [(x : Int)]) (ports ++ [lk]) (nodesF (ls.drop (k + 1)) (k + 1)) := by
  rw [h, List.drop_eq_getElem_cons (List.getElem?_eq_some_iff.1 hl).1, (List.getElem?_eq_some_iff.1 hl).2]
  simp only [nodesF, hn]
  cases nodesF (ls.drop (k + 1)) (k + 1) with
  | error e => rfl
  | ok r => simp [addN]
theorem linesF_len (t : Bs) : (yex t).length ≤ t.length + 1 := by
  have := splitL_len 10 t
  unfold yex
  split
  · simp; omega
  · exact this
theorem linesF_mem {t l : Bs} (h : l ∈ yex t) : l.length ≤ t.length := by
  unfold yex at h
  split at h
  · exact splitL_mem 10 (List.dropLast_subset _ h)
  · exact splitL_mem 10 h
def Parsed (lines : List Bs) (q : Nat × List Int × List (List Lk)) : Prop :=
  q.1 ≤ lines.length ∧ q.2.1.length = q.1 ∧ q.2.2.length = q.1 ∧ nodesF lines 0 = addN q.2.1 q.2.2 (nodesF (lines.drop q.1) q.1) ∧ ∀ l ∈ q.2.2, l.length ≤ 5000
theorem Parsed.next {lines : List Bs} {k x : Nat} {ids : List Int} {ports : List (List Lk)} {l : Bs} {lk : List Lk} (h : Parsed lines (k, ids, ports)) (hl : lines[k]? = some l) (hn : nodeF l = some (x, lk)) (hlk : lk.length ≤ 5000) : Parsed lines (k + 1, ids ++ [(x : Int)], ports ++ [lk]) := by
  obtain ⟨h1, h2, h3, h4, h5⟩ := h
  simp only at h1 h2 h3 h4 h5
  have := (List.getElem?_eq_some_iff.1 hl).1
  refine ⟨by simp only; omega, by simp; omega, by simp; omega, nodesF_next hl h4 hn, ?_⟩
  simp only [List.mem_append, List.mem_singleton]
  rintro y (hy | rfl)
  · exact h5 y hy
  · exact hlk
end Go.Proofs.YtmlkdoimkdbdpaaGreatDoor
set_option linter.unusedVariables false
set_option maxRecDepth 100000
set_option maxHeartbeats 4000000
namespace Go.Proofs.YtmlkdoimkdbdpaaGreatDoor
open Go.RowKit
theorem ba_app (a b : Bs) : ba a ++ ba b = ba (a ++ b) := by
  apply ba_ext
  rw [bl_ba]
  show (ba a ++ ba b).data.toList = _
  rw [ByteArray.data_append]
  simp [ba]
theorem str_nums (n : Nat) : strOfNums [(48 : Int) + (n : Nat)] = ba [UInt8.ofNat (48 + n)] := by
  unfold strOfNums ba
  simp only [List.map_cons, List.map_nil]
  congr 4
theorem max_nat (v : Int) : (if (0 : Int) > v then (0 : Int) else v) = (v.toNat : Int) := by split <;> omega
theorem decimal_con (v : Int) (hv : v ≤ 1000000000) : Con Tryz.prog 43 [i64 v] (yfd (ba (dec v.toNat))) := by
  refine ybs Tryz.func43 rfl rfl Tryz.ntmps43 Tryz.results43 rfl rfl ?_
  have hlen := dec_len 10 v.toNat (by omega) (by omega)
  have hm : (if (0 : Int) > v then (0 : Int) else v).tmod 10 = ((v.toNat % 10 : Nat) : Int) := by rw [max_nat]; rfl
  (repeat (first | refine L_u8 tok rfl (by constructor <;> omega) rfl rfl ?_ | refine zI ?_ | refine zL ?_ | refine zC ?_ | refine yai ?_ | refine yaj ?_ | refine zR ?_ | refine zD ?_ | refine zK ?_ | refine zB ?_ | refine zA ?_ | refine zS ?_ | refine zU ?_ | refine zV ?_ | refine zF ?_ | with_reducible refine yac ?_ | with_reducible refine yag ?_ | refine yad ?_ | refine yae ?_ | refine yaf ?_ | refine zT ?_ | refine zE ?_ | refine zX ?_ | refine L_b2s tok rfl rfl rfl rfl rfl rfl ?_))
  refine ydp (α := Nat × Bs) (fun q => [(0, i64 q.1), (3, yfd (ba q.2))]) (fun q => []) (fun q => q.1) (fun q => q.1 ≤ v.toNat ∧ dec v.toNat = (if q.1 < 10 then [] else dec (q.1 / 10)) ++ q.2) (v.toNat, [UInt8.ofNat (48 + v.toNat % 10)]) ⟨Nat.le_refl _, ?_⟩ ?_ (by first | exact yab | exact yaa rfl yab | exact yaa rfl (yaa rfl yab) | exact yaa rfl (yaa rfl (yaa rfl yab)) | exact yaa rfl (yaa rfl (yaa rfl (yaa rfl yab)))) ?_
  · simp only
    by_cases h : v.toNat < 10
    · rw [dec_small h, if_pos h, Nat.mod_eq_of_lt h]; rfl
    · rw [dec_big h, if_neg h]
  · refine yak (some_av rfl (i64_eq (max_nat v))) (yak (some_av rfl ?_) yan)
    rw [hm, str_nums]; rfl
  rintro ⟨n, s⟩ ⟨hn, hs⟩
  simp only at hn hs
  have hsl : s.length ≤ 10 := by
    have := congrArg List.length hs
    rw [List.length_append] at this
    omega
  (repeat (first | refine zI ?_ | refine zL ?_ | refine zC ?_ | refine yai ?_ | refine yaj ?_ | refine zR ?_ | refine zD ?_ | refine zK ?_ | refine zB ?_ | refine zA ?_ | refine zS ?_ | refine zU ?_ | refine zV ?_ | refine zF ?_ | with_reducible refine yac ?_ | with_reducible refine yag ?_ | refine yad ?_ | refine yae ?_ | refine yaf ?_ | refine zT ?_ | refine zE ?_ | refine zX ?_))
  refine yaq rfl (fun h => ?_) (fun h => ?_)
  · simp at h
    have hq : ((((n, s).1 : Nat) : Int).tdiv 10) = ((n / 10 : Nat) : Int) := rfl
    have hr : ((((n, s).1 : Nat) : Int).tdiv 10).tmod 10 = ((n / 10 % 10 : Nat) : Int) := rfl
    (repeat (first | refine L_u8 tok rfl (by constructor <;> omega) rfl rfl ?_ | refine zI ?_ | refine zL ?_ | refine zC ?_ | refine yai ?_ | refine yaj ?_ | refine zR ?_ | refine zD ?_ | refine zK ?_ | refine zB ?_ | refine zA ?_ | refine zS ?_ | refine zU ?_ | refine zV ?_ | refine zF ?_ | with_reducible refine yac ?_ | with_reducible refine yag ?_ | refine yad ?_ | refine yae ?_ | refine yaf ?_ | refine zT ?_ | refine zE ?_ | refine zX ?_ | refine L_b2s tok rfl rfl rfl rfl rfl rfl ?_))
    refine L_same 21 (y := yfd (ba [UInt8.ofNat (48 + n / 10 % 10)])) rfl (by rw [hr, str_nums]; rfl) ?_
    (repeat (first | refine zI ?_ | refine zL ?_ | refine zC ?_ | refine yai ?_ | refine yaj ?_ | refine zR ?_ | refine zD ?_ | refine zK ?_ | refine zB ?_ | refine zA ?_ | refine zS ?_ | refine zU ?_ | refine zV ?_ | refine zF ?_ | with_reducible refine yac ?_ | with_reducible refine yag ?_ | refine yad ?_ | refine yae ?_ | refine yaf ?_ | refine zT ?_ | refine zE ?_ | refine zX ?_ | refine L_concat rfl rfl (by rw [yda, yda]; simp; omega) rfl rfl ?_))
    refine rnd (n / 10, UInt8.ofNat (48 + n / 10 % 10) :: s) ⟨by simp only; omega, ?_⟩ (by simp only; omega) ?_ (by first | exact yab | exact yaa rfl yab | exact yaa rfl (yaa rfl yab) | exact yaa rfl (yaa rfl (yaa rfl yab)) | exact yaa rfl (yaa rfl (yaa rfl (yaa rfl yab))))
    · simp only
      rw [hs, if_neg (by omega)]
      by_cases h2 : n / 10 < 10
      · rw [dec_small h2, if_pos h2, Nat.mod_eq_of_lt h2]; rfl
      · rw [dec_big h2, if_neg h2]; simp
    · refine yak rfl (yak (some_av rfl (str_eq ?_)) yan)
      rw [ba_app]; rfl
  · simp at h
    (repeat (first | refine zI ?_ | refine zL ?_ | refine zC ?_ | refine yai ?_ | refine yaj ?_ | refine zR ?_ | refine zD ?_ | refine zK ?_ | refine zB ?_ | refine zA ?_ | refine zS ?_ | refine zU ?_ | refine zV ?_ | refine zF ?_ | with_reducible refine yac ?_ | with_reducible refine yag ?_ | refine yad ?_ | refine yae ?_ | refine yaf ?_ | refine zT ?_ | refine zE ?_ | refine zX ?_))
    refine yas ?_; refine ⟨_, rfl, ?_⟩
    refine frz_eq ?_
    rw [hs, if_pos (by omega)]
    rfl

end Go.Proofs.YtmlkdoimkdbdpaaGreatDoor
set_option linter.unusedVariables false
set_option maxRecDepth 100000
set_option maxHeartbeats 8000000
namespace Go.Proofs.YtmlkdoimkdbdpaaGreatDoor
open Go.RowKit
theorem mwrite_con (k v : Int) (h0 : -9223372036854775808 ≤ v) (h1 : v ≤ 9223372036854775807) : Con Tryz.prog 21 [i64 k, i64 v] (yfd (ba (ydg k v))) := by
  refine ybs Tryz.func21 rfl rfl Tryz.ntmps21 Tryz.results21 rfl rfl ?_
  (repeat (first | refine zI ?_ | refine zL ?_ | refine zC ?_ | refine yai ?_ | refine yaj ?_ | refine zR ?_ | refine zD ?_ | refine zK ?_ | refine zB ?_ | refine zA ?_ | refine zS ?_ | refine zU ?_ | refine zV ?_ | refine zF ?_ | with_reducible refine yac ?_ | with_reducible refine yag ?_ | refine yad ?_ | refine yae ?_ | refine yaf ?_ | refine zT ?_ | refine zE ?_ | refine zX ?_))
  refine ybm 8 rfl (fun h2 => ?_) (fun h2 => ?_)
  · have h2 : k = 2 := by simpa using h2
    (repeat (first | refine zI ?_ | refine zL ?_ | refine zC ?_ | refine yai ?_ | refine yaj ?_ | refine zR ?_ | refine zD ?_ | refine zK ?_ | refine zB ?_ | refine zA ?_ | refine zS ?_ | refine zU ?_ | refine zV ?_ | refine zF ?_ | with_reducible refine yac ?_ | with_reducible refine yag ?_ | refine yad ?_ | refine yae ?_ | refine yaf ?_ | refine zT ?_ | refine zE ?_ | refine zX ?_))
    refine yaq rfl (fun h3 => ?_) (fun h3 => ?_)
    · have h3 : v = 1 := by simpa using h3
      (repeat (first | refine zI ?_ | refine zL ?_ | refine zC ?_ | refine yai ?_ | refine yaj ?_ | refine zR ?_ | refine zD ?_ | refine zK ?_ | refine zB ?_ | refine zA ?_ | refine zS ?_ | refine zU ?_ | refine zV ?_ | refine zF ?_ | with_reducible refine yac ?_ | with_reducible refine yag ?_ | refine yad ?_ | refine yae ?_ | refine yaf ?_ | refine zT ?_ | refine zE ?_ | refine zX ?_))
      refine yas ?_; refine ⟨_, rfl, ?_⟩
      refine frz_eq ?_
      rw [ydg, if_pos h2, if_pos h3]; rfl
    · have h3 : v ≠ 1 := by simpa using h3
      (repeat (first | refine zI ?_ | refine zL ?_ | refine zC ?_ | refine yai ?_ | refine yaj ?_ | refine zR ?_ | refine zD ?_ | refine zK ?_ | refine zB ?_ | refine zA ?_ | refine zS ?_ | refine zU ?_ | refine zV ?_ | refine zF ?_ | with_reducible refine yac ?_ | with_reducible refine yag ?_ | refine yad ?_ | refine yae ?_ | refine yaf ?_ | refine zT ?_ | refine zE ?_ | refine zX ?_))
      refine yaq rfl (fun h4 => ?_) (fun h4 => ?_)
      · (repeat (first | refine zI ?_ | refine zL ?_ | refine zC ?_ | refine yai ?_ | refine yaj ?_ | refine zR ?_ | refine zD ?_ | refine zK ?_ | refine zB ?_ | refine zA ?_ | refine zS ?_ | refine zU ?_ | refine zV ?_ | refine zF ?_ | with_reducible refine yac ?_ | with_reducible refine yag ?_ | refine yad ?_ | refine yae ?_ | refine yaf ?_ | refine zT ?_ | refine zE ?_ | refine zX ?_))
        refine yas ?_; refine ⟨_, rfl, ?_⟩
        refine frz_eq ?_
        rw [ydg, if_pos h2, if_neg h3]; rfl
      · exfalso; simp [h2] at h4
  · have h2 : k ≠ 2 := by simpa using h2
    (repeat (first | refine zI ?_ | refine zL ?_ | refine zC ?_ | refine yai ?_ | refine yaj ?_ | refine zR ?_ | refine zD ?_ | refine zK ?_ | refine zB ?_ | refine zA ?_ | refine zS ?_ | refine zU ?_ | refine zV ?_ | refine zF ?_ | with_reducible refine yac ?_ | with_reducible refine yag ?_ | refine yad ?_ | refine yae ?_ | refine yaf ?_ | refine zT ?_ | refine zE ?_ | refine zX ?_))
    refine yaq rfl (fun h4 => ?_) (fun h4 => ?_)
    · exfalso; simp [h2] at h4
    (repeat (first | refine zI ?_ | refine zL ?_ | refine zC ?_ | refine yai ?_ | refine yaj ?_ | refine zR ?_ | refine zD ?_ | refine zK ?_ | refine zB ?_ | refine zA ?_ | refine zS ?_ | refine zU ?_ | refine zV ?_ | refine zF ?_ | with_reducible refine yac ?_ | with_reducible refine yag ?_ | refine yad ?_ | refine yae ?_ | refine yaf ?_ | refine zT ?_ | refine zE ?_ | refine zX ?_))
    refine ybm 18 rfl (fun h5 => ?_) (fun h5 => ?_)
    · have h5 : k = 3 := by simpa using h5
      (repeat (first | refine zI ?_ | refine zL ?_ | refine zC ?_ | refine yai ?_ | refine yaj ?_ | refine zR ?_ | refine zD ?_ | refine zK ?_ | refine zB ?_ | refine zA ?_ | refine zS ?_ | refine zU ?_ | refine zV ?_ | refine zF ?_ | with_reducible refine yac ?_ | with_reducible refine yag ?_ | refine yad ?_ | refine yae ?_ | refine yaf ?_ | refine zT ?_ | refine zE ?_ | refine zX ?_))
      refine yaq rfl (fun h6 => ?_) (fun h6 => ?_)
      · have h6 : v < 0 := by simpa using h6
        (repeat (first | refine zI ?_ | refine zL ?_ | refine zC ?_ | refine yai ?_ | refine yaj ?_ | refine zR ?_ | refine zD ?_ | refine zK ?_ | refine zB ?_ | refine zA ?_ | refine zS ?_ | refine zU ?_ | refine zV ?_ | refine zF ?_ | with_reducible refine yac ?_ | with_reducible refine yag ?_ | refine yad ?_ | refine yae ?_ | refine yaf ?_ | refine zT ?_ | refine zE ?_ | refine zX ?_))
        refine yas ?_; refine ⟨_, rfl, ?_⟩
        refine frz_eq ?_
        rw [ydg, if_neg h2, if_pos ⟨h5, h6⟩]; rfl
      · have h6 : ¬ v < 0 := by simpa using h6
        (repeat (first | refine zI ?_ | refine zL ?_ | refine zC ?_ | refine yai ?_ | refine yaj ?_ | refine zR ?_ | refine zD ?_ | refine zK ?_ | refine zB ?_ | refine zA ?_ | refine zS ?_ | refine zU ?_ | refine zV ?_ | refine zF ?_ | with_reducible refine yac ?_ | with_reducible refine yag ?_ | refine yad ?_ | refine yae ?_ | refine yaf ?_ | refine zT ?_ | refine zE ?_ | refine zX ?_ | refine yar rfl rfl (itoa_con v h0 h1) rfl rfl ?_))
        refine yas ?_; refine ⟨_, rfl, ?_⟩
        refine frz_eq ?_
        rw [ydg, if_neg h2, if_neg (by omega)]
    · have h5 : k ≠ 3 := by simpa using h5
      (repeat (first | refine zI ?_ | refine zL ?_ | refine zC ?_ | refine yai ?_ | refine yaj ?_ | refine zR ?_ | refine zD ?_ | refine zK ?_ | refine zB ?_ | refine zA ?_ | refine zS ?_ | refine zU ?_ | refine zV ?_ | refine zF ?_ | with_reducible refine yac ?_ | with_reducible refine yag ?_ | refine yad ?_ | refine yae ?_ | refine yaf ?_ | refine zT ?_ | refine zE ?_ | refine zX ?_ | refine yar rfl rfl (itoa_con v h0 h1) rfl rfl ?_))
      refine yas ?_; refine ⟨_, rfl, ?_⟩
      refine frz_eq ?_
      rw [ydg, if_neg h2, if_neg (by omega)]
theorem word_con (k v : Int) (hv : ValOk k v) : Con Tryz.prog 23 [i64 k, i64 v] (yfd (ba (ydg k v))) := by
  obtain ⟨v2, v3, v1⟩ := hv
  refine ybs Tryz.func23 rfl rfl Tryz.ntmps23 Tryz.results23 rfl rfl ?_
  (repeat (first | refine zI ?_ | refine zL ?_ | refine zC ?_ | refine yai ?_ | refine yaj ?_ | refine zR ?_ | refine zD ?_ | refine zK ?_ | refine zB ?_ | refine zA ?_ | refine zS ?_ | refine zU ?_ | refine zV ?_ | refine zF ?_ | with_reducible refine yac ?_ | with_reducible refine yag ?_ | refine yad ?_ | refine yae ?_ | refine yaf ?_ | refine zT ?_ | refine zE ?_ | refine zX ?_))
  refine ybm 8 rfl (fun h2 => ?_) (fun h2 => ?_)
  · have h2 : k = 2 := by simpa using h2
    have := v2 h2
    (repeat (first | refine zI ?_ | refine zL ?_ | refine zC ?_ | refine yai ?_ | refine yaj ?_ | refine zR ?_ | refine zD ?_ | refine zK ?_ | refine zB ?_ | refine zA ?_ | refine zS ?_ | refine zU ?_ | refine zV ?_ | refine zF ?_ | with_reducible refine yac ?_ | with_reducible refine yag ?_ | refine yad ?_ | refine yae ?_ | refine yaf ?_ | refine zT ?_ | refine zE ?_ | refine zX ?_))
    refine yaq rfl (fun h3 => ?_) (fun h3 => ?_)
    · have h3 : v = 0 := by simpa using h3
      (repeat (first | refine zI ?_ | refine zL ?_ | refine zC ?_ | refine yai ?_ | refine yaj ?_ | refine zR ?_ | refine zD ?_ | refine zK ?_ | refine zB ?_ | refine zA ?_ | refine zS ?_ | refine zU ?_ | refine zV ?_ | refine zF ?_ | with_reducible refine yac ?_ | with_reducible refine yag ?_ | refine yad ?_ | refine yae ?_ | refine yaf ?_ | refine zT ?_ | refine zE ?_ | refine zX ?_))
      refine yas ?_; refine ⟨_, rfl, ?_⟩
      refine frz_eq ?_
      rw [ydg, if_pos h2, if_neg (by omega)]; rfl
    · have h3 : v ≠ 0 := by simpa using h3
      (repeat (first | refine zI ?_ | refine zL ?_ | refine zC ?_ | refine yai ?_ | refine yaj ?_ | refine zR ?_ | refine zD ?_ | refine zK ?_ | refine zB ?_ | refine zA ?_ | refine zS ?_ | refine zU ?_ | refine zV ?_ | refine zF ?_ | with_reducible refine yac ?_ | with_reducible refine yag ?_ | refine yad ?_ | refine yae ?_ | refine yaf ?_ | refine zT ?_ | refine zE ?_ | refine zX ?_))
      refine yaq rfl (fun h4 => ?_) (fun h4 => ?_)
      · (repeat (first | refine zI ?_ | refine zL ?_ | refine zC ?_ | refine yai ?_ | refine yaj ?_ | refine zR ?_ | refine zD ?_ | refine zK ?_ | refine zB ?_ | refine zA ?_ | refine zS ?_ | refine zU ?_ | refine zV ?_ | refine zF ?_ | with_reducible refine yac ?_ | with_reducible refine yag ?_ | refine yad ?_ | refine yae ?_ | refine yaf ?_ | refine zT ?_ | refine zE ?_ | refine zX ?_))
        refine yas ?_; refine ⟨_, rfl, ?_⟩
        refine frz_eq ?_
        rw [ydg, if_pos h2, if_pos (by omega)]; rfl
      · exfalso; simp [h2] at h4
  · have h2 : k ≠ 2 := by simpa using h2
    (repeat (first | refine zI ?_ | refine zL ?_ | refine zC ?_ | refine yai ?_ | refine yaj ?_ | refine zR ?_ | refine zD ?_ | refine zK ?_ | refine zB ?_ | refine zA ?_ | refine zS ?_ | refine zU ?_ | refine zV ?_ | refine zF ?_ | with_reducible refine yac ?_ | with_reducible refine yag ?_ | refine yad ?_ | refine yae ?_ | refine yaf ?_ | refine zT ?_ | refine zE ?_ | refine zX ?_))
    refine yaq rfl (fun h4 => ?_) (fun h4 => ?_)
    · exfalso; simp [h2] at h4
    (repeat (first | refine zI ?_ | refine zL ?_ | refine zC ?_ | refine yai ?_ | refine yaj ?_ | refine zR ?_ | refine zD ?_ | refine zK ?_ | refine zB ?_ | refine zA ?_ | refine zS ?_ | refine zU ?_ | refine zV ?_ | refine zF ?_ | with_reducible refine yac ?_ | with_reducible refine yag ?_ | refine yad ?_ | refine yae ?_ | refine yaf ?_ | refine zT ?_ | refine zE ?_ | refine zX ?_))
    refine yaq rfl (fun h6 => ?_) (fun h6 => ?_)
    · have h6 : v < 0 := by simpa using h6
      have h5 : k = 3 := by
        by_cases e : k = 3
        · exact e
        · have := v1 h2 e; omega
      (repeat (first | refine zI ?_ | refine zL ?_ | refine zC ?_ | refine yai ?_ | refine yaj ?_ | refine zR ?_ | refine zD ?_ | refine zK ?_ | refine zB ?_ | refine zA ?_ | refine zS ?_ | refine zU ?_ | refine zV ?_ | refine zF ?_ | with_reducible refine yac ?_ | with_reducible refine yag ?_ | refine yad ?_ | refine yae ?_ | refine yaf ?_ | refine zT ?_ | refine zE ?_ | refine zX ?_))
      refine yas ?_; refine ⟨_, rfl, ?_⟩
      refine frz_eq ?_
      rw [ydg, if_neg h2, if_pos ⟨h5, h6⟩]; rfl
    · have h6 : ¬ v < 0 := by simpa using h6
      have hb : v < 1000000 := by
        by_cases e : k = 3
        · have := v3 e; omega
        · have := v1 h2 e; omega
      (repeat (first | refine zI ?_ | refine zL ?_ | refine zC ?_ | refine yai ?_ | refine yaj ?_ | refine zR ?_ | refine zD ?_ | refine zK ?_ | refine zB ?_ | refine zA ?_ | refine zS ?_ | refine zU ?_ | refine zV ?_ | refine zF ?_ | with_reducible refine yac ?_ | with_reducible refine yag ?_ | refine yad ?_ | refine yae ?_ | refine yaf ?_ | refine zT ?_ | refine zE ?_ | refine zX ?_ | refine yar rfl rfl (decimal_con v (by omega)) rfl rfl ?_))
      refine yas ?_; refine ⟨_, rfl, ?_⟩
      refine frz_eq ?_
      rw [ydg, if_neg h2, if_neg (by omega), itoa_decN (by omega)]
def valA (d : Int) (o : Option Int) : AV := .tup [i64 (o.getD d), yfp o.isSome]
theorem frz_val {h : Nat → Option LObj} {d a : Int} {b : Bool} {o : Option Int} (h1 : a = o.getD d) (h2 : b = o.isSome) : Frz h (.tup [.v (.int .i64 a), .v (.bool b)]) (valA d o) := by
  subst h1; subst h2; exact Frz.pure
theorem read_con (k : Int) (s : ByteArray) (hs : s.size ≤ 100000) : Con Tryz.prog 49 [i64 k, yfd s] (valA 0 (ycz k (bl s))) := by
  refine ybs Tryz.func49 rfl rfl Tryz.ntmps49 Tryz.results49 rfl rfl ?_
  (repeat (first | refine zI ?_ | refine zL ?_ | refine zC ?_ | refine yai ?_ | refine yaj ?_ | refine zR ?_ | refine zD ?_ | refine zK ?_ | refine zB ?_ | refine zA ?_ | refine zS ?_ | refine zU ?_ | refine zV ?_ | refine zF ?_ | with_reducible refine yac ?_ | with_reducible refine yag ?_ | refine yad ?_ | refine yae ?_ | refine yaf ?_ | refine zT ?_ | refine zE ?_ | refine zX ?_))
  refine ybm 9 rfl (fun h2 => ?_) (fun h2 => ?_)
  · have h2 : k = 2 := by simpa using h2
    (repeat (first | refine zI ?_ | refine zL ?_ | refine zC ?_ | refine yai ?_ | refine yaj ?_ | refine zR ?_ | refine zD ?_ | refine zK ?_ | refine zB ?_ | refine zA ?_ | refine zS ?_ | refine zU ?_ | refine zV ?_ | refine zF ?_ | with_reducible refine yac ?_ | with_reducible refine yag ?_ | refine yad ?_ | refine yae ?_ | refine yaf ?_ | refine zT ?_ | refine zE ?_ | refine zX ?_))
    refine yaq rfl (fun h3 => ?_) (fun h3 => ?_)
    · rw [beq_bl] at h3
      have h3 : bl s = trueW := of_decide_eq_true h3
      (repeat (first | refine zI ?_ | refine zL ?_ | refine zC ?_ | refine yai ?_ | refine yaj ?_ | refine zR ?_ | refine zD ?_ | refine zK ?_ | refine zB ?_ | refine zA ?_ | refine zS ?_ | refine zU ?_ | refine zV ?_ | refine zF ?_ | with_reducible refine yac ?_ | with_reducible refine yag ?_ | refine yad ?_ | refine yae ?_ | refine yaf ?_ | refine zT ?_ | refine zE ?_ | refine zX ?_))
      refine yas ?_; refine ⟨_, rfl, ?_⟩
      exact frz_val (by rw [ycz, if_pos h2, if_pos h3]; rfl) (by rw [ycz, if_pos h2, if_pos h3]; rfl)
    · rw [beq_bl] at h3
      have h3 : bl s ≠ trueW := of_decide_eq_false h3
      (repeat (first | refine zI ?_ | refine zL ?_ | refine zC ?_ | refine yai ?_ | refine yaj ?_ | refine zR ?_ | refine zD ?_ | refine zK ?_ | refine zB ?_ | refine zA ?_ | refine zS ?_ | refine zU ?_ | refine zV ?_ | refine zF ?_ | with_reducible refine yac ?_ | with_reducible refine yag ?_ | refine yad ?_ | refine yae ?_ | refine yaf ?_ | refine zT ?_ | refine zE ?_ | refine zX ?_))
      refine yaq rfl (fun h4 => ?_) (fun h4 => ?_)
      · (repeat (first | refine zI ?_ | refine zL ?_ | refine zC ?_ | refine yai ?_ | refine yaj ?_ | refine zR ?_ | refine zD ?_ | refine zK ?_ | refine zB ?_ | refine zA ?_ | refine zS ?_ | refine zU ?_ | refine zV ?_ | refine zF ?_ | with_reducible refine yac ?_ | with_reducible refine yag ?_ | refine yad ?_ | refine yae ?_ | refine yaf ?_ | refine zT ?_ | refine zE ?_ | refine zX ?_))
        refine yas ?_; refine ⟨_, rfl, ?_⟩
        refine frz_val ?_ ?_
        · rw [ycz, if_pos h2, if_neg h3]; split <;> rfl
        · rw [ycz, if_pos h2, if_neg h3, beq_bl]
          by_cases e : bl s = falseW
          · rw [if_pos e]; exact decide_eq_true e
          · rw [if_neg e]; exact decide_eq_false e
      · exfalso; simp [h2] at h4
  · have h2 : k ≠ 2 := by simpa using h2
    (repeat (first | refine zI ?_ | refine zL ?_ | refine zC ?_ | refine yai ?_ | refine yaj ?_ | refine zR ?_ | refine zD ?_ | refine zK ?_ | refine zB ?_ | refine zA ?_ | refine zS ?_ | refine zU ?_ | refine zV ?_ | refine zF ?_ | with_reducible refine yac ?_ | with_reducible refine yag ?_ | refine yad ?_ | refine yae ?_ | refine yaf ?_ | refine zT ?_ | refine zE ?_ | refine zX ?_))
    refine yaq rfl (fun h4 => ?_) (fun h4 => ?_)
    · exfalso; simp [h2] at h4
    (repeat (first | refine zI ?_ | refine zL ?_ | refine zC ?_ | refine yai ?_ | refine yaj ?_ | refine zR ?_ | refine zD ?_ | refine zK ?_ | refine zB ?_ | refine zA ?_ | refine zS ?_ | refine zU ?_ | refine zV ?_ | refine zF ?_ | with_reducible refine yac ?_ | with_reducible refine yag ?_ | refine yad ?_ | refine yae ?_ | refine yaf ?_ | refine zT ?_ | refine zE ?_ | refine zX ?_))
    refine ybm 21 rfl (fun h5 => ?_) (fun h5 => ?_)
    · have h5 : k = 3 := by simpa using h5
      (repeat (first | refine zI ?_ | refine zL ?_ | refine zC ?_ | refine yai ?_ | refine yaj ?_ | refine zR ?_ | refine zD ?_ | refine zK ?_ | refine zB ?_ | refine zA ?_ | refine zS ?_ | refine zU ?_ | refine zV ?_ | refine zF ?_ | with_reducible refine yac ?_ | with_reducible refine yag ?_ | refine yad ?_ | refine yae ?_ | refine yaf ?_ | refine zT ?_ | refine zE ?_ | refine zX ?_))
      refine yaq rfl (fun h6 => ?_) (fun h6 => ?_)
      · rw [beq_bl] at h6
        have h6 : bl s = noneW := of_decide_eq_true h6
        (repeat (first | refine zI ?_ | refine zL ?_ | refine zC ?_ | refine yai ?_ | refine yaj ?_ | refine zR ?_ | refine zD ?_ | refine zK ?_ | refine zB ?_ | refine zA ?_ | refine zS ?_ | refine zU ?_ | refine zV ?_ | refine zF ?_ | with_reducible refine yac ?_ | with_reducible refine yag ?_ | refine yad ?_ | refine yae ?_ | refine yaf ?_ | refine zT ?_ | refine zE ?_ | refine zX ?_))
        refine yas ?_; refine ⟨_, rfl, ?_⟩
        exact frz_val (by rw [ycz, if_neg h2, if_pos ⟨h5, h6⟩]; rfl) (by rw [ycz, if_neg h2, if_pos ⟨h5, h6⟩]; rfl)
      · rw [beq_bl] at h6
        have h6 : bl s ≠ noneW := of_decide_eq_false h6
        (repeat (first | refine zI ?_ | refine zL ?_ | refine zC ?_ | refine yai ?_ | refine yaj ?_ | refine zR ?_ | refine zD ?_ | refine zK ?_ | refine zB ?_ | refine zA ?_ | refine zS ?_ | refine zU ?_ | refine zV ?_ | refine zF ?_ | with_reducible refine yac ?_ | with_reducible refine yag ?_ | refine yad ?_ | refine yae ?_ | refine yaf ?_ | refine zT ?_ | refine zE ?_ | refine zX ?_ | refine yar rfl rfl (number_con s hs) rfl rfl ?_))
        refine yas ?_; refine ⟨_, rfl, ?_⟩
        have e : ycz k (bl s) = (ycb (bl s)).map fun n => (n : Int) := by rw [ycz, if_neg h2, if_neg (fun q => h6 q.2)]
        exact frz_val (by rw [e]; cases ycb (bl s) <;> rfl) (by rw [e]; cases ycb (bl s) <;> rfl)
    · have h5 : k ≠ 3 := by simpa using h5
      (repeat (first | refine zI ?_ | refine zL ?_ | refine zC ?_ | refine yai ?_ | refine yaj ?_ | refine zR ?_ | refine zD ?_ | refine zK ?_ | refine zB ?_ | refine zA ?_ | refine zS ?_ | refine zU ?_ | refine zV ?_ | refine zF ?_ | with_reducible refine yac ?_ | with_reducible refine yag ?_ | refine yad ?_ | refine yae ?_ | refine yaf ?_ | refine zT ?_ | refine zE ?_ | refine zX ?_ | refine yar rfl rfl (number_con s hs) rfl rfl ?_))
      refine yas ?_; refine ⟨_, rfl, ?_⟩
      have e : ycz k (bl s) = (ycb (bl s)).map fun n => (n : Int) := by rw [ycz, if_neg h2, if_neg (fun q => h5 q.1)]
      exact frz_val (by rw [e]; cases ycb (bl s) <;> rfl) (by rw [e]; cases ycb (bl s) <;> rfl)
theorem value_con (k : Int) (s : ByteArray) (hs : s.size ≤ 100000) : Con Tryz.prog 54 [i64 k, yfd s] (valA (if k = 2 then 1 else 0) (ycz k (bl s))) := by
  refine ybs Tryz.func54 rfl rfl Tryz.ntmps54 Tryz.results54 rfl rfl ?_
  (repeat (first | refine zI ?_ | refine zL ?_ | refine zC ?_ | refine yai ?_ | refine yaj ?_ | refine zR ?_ | refine zD ?_ | refine zK ?_ | refine zB ?_ | refine zA ?_ | refine zS ?_ | refine zU ?_ | refine zV ?_ | refine zF ?_ | with_reducible refine yac ?_ | with_reducible refine yag ?_ | refine yad ?_ | refine yae ?_ | refine yaf ?_ | refine zT ?_ | refine zE ?_ | refine zX ?_))
  refine ybm 9 rfl (fun h2 => ?_) (fun h2 => ?_)
  · have h2 : k = 2 := by simpa using h2
    (repeat (first | refine zI ?_ | refine zL ?_ | refine zC ?_ | refine yai ?_ | refine yaj ?_ | refine zR ?_ | refine zD ?_ | refine zK ?_ | refine zB ?_ | refine zA ?_ | refine zS ?_ | refine zU ?_ | refine zV ?_ | refine zF ?_ | with_reducible refine yac ?_ | with_reducible refine yag ?_ | refine yad ?_ | refine yae ?_ | refine yaf ?_ | refine zT ?_ | refine zE ?_ | refine zX ?_))
    refine yaq rfl (fun h3 => ?_) (fun h3 => ?_)
    · rw [beq_bl] at h3
      have h3 : bl s = falseW := of_decide_eq_true h3
      (repeat (first | refine zI ?_ | refine zL ?_ | refine zC ?_ | refine yai ?_ | refine yaj ?_ | refine zR ?_ | refine zD ?_ | refine zK ?_ | refine zB ?_ | refine zA ?_ | refine zS ?_ | refine zU ?_ | refine zV ?_ | refine zF ?_ | with_reducible refine yac ?_ | with_reducible refine yag ?_ | refine yad ?_ | refine yae ?_ | refine yaf ?_ | refine zT ?_ | refine zE ?_ | refine zX ?_))
      refine yas ?_; refine ⟨_, rfl, ?_⟩
      have e : ycz k (bl s) = some 0 := by rw [ycz, if_pos h2, if_neg (by rw [h3]; decide), if_pos h3]
      exact frz_val (by rw [e]; rfl) (by rw [e]; rfl)
    · rw [beq_bl] at h3
      have h3 : bl s ≠ falseW := of_decide_eq_false h3
      (repeat (first | refine zI ?_ | refine zL ?_ | refine zC ?_ | refine yai ?_ | refine yaj ?_ | refine zR ?_ | refine zD ?_ | refine zK ?_ | refine zB ?_ | refine zA ?_ | refine zS ?_ | refine zU ?_ | refine zV ?_ | refine zF ?_ | with_reducible refine yac ?_ | with_reducible refine yag ?_ | refine yad ?_ | refine yae ?_ | refine yaf ?_ | refine zT ?_ | refine zE ?_ | refine zX ?_))
      refine yaq rfl (fun h4 => ?_) (fun h4 => ?_)
      · (repeat (first | refine zI ?_ | refine zL ?_ | refine zC ?_ | refine yai ?_ | refine yaj ?_ | refine zR ?_ | refine zD ?_ | refine zK ?_ | refine zB ?_ | refine zA ?_ | refine zS ?_ | refine zU ?_ | refine zV ?_ | refine zF ?_ | with_reducible refine yac ?_ | with_reducible refine yag ?_ | refine yad ?_ | refine yae ?_ | refine yaf ?_ | refine zT ?_ | refine zE ?_ | refine zX ?_))
        refine yas ?_; refine ⟨_, rfl, ?_⟩
        refine frz_val ?_ ?_
        · rw [ycz, if_pos h2, if_pos h2, if_neg h3]; split <;> rfl
        · rw [ycz, if_pos h2, if_neg h3, beq_bl]
          by_cases e : bl s = trueW
          · rw [if_pos e]; exact decide_eq_true e
          · rw [if_neg e]; exact decide_eq_false e
      · exfalso; simp [h2] at h4
  · have h2 : k ≠ 2 := by simpa using h2
    (repeat (first | refine zI ?_ | refine zL ?_ | refine zC ?_ | refine yai ?_ | refine yaj ?_ | refine zR ?_ | refine zD ?_ | refine zK ?_ | refine zB ?_ | refine zA ?_ | refine zS ?_ | refine zU ?_ | refine zV ?_ | refine zF ?_ | with_reducible refine yac ?_ | with_reducible refine yag ?_ | refine yad ?_ | refine yae ?_ | refine yaf ?_ | refine zT ?_ | refine zE ?_ | refine zX ?_))
    refine yaq rfl (fun h4 => ?_) (fun h4 => ?_)
    · exfalso; simp [h2] at h4
    (repeat (first | refine zI ?_ | refine zL ?_ | refine zC ?_ | refine yai ?_ | refine yaj ?_ | refine zR ?_ | refine zD ?_ | refine zK ?_ | refine zB ?_ | refine zA ?_ | refine zS ?_ | refine zU ?_ | refine zV ?_ | refine zF ?_ | with_reducible refine yac ?_ | with_reducible refine yag ?_ | refine yad ?_ | refine yae ?_ | refine yaf ?_ | refine zT ?_ | refine zE ?_ | refine zX ?_))
    rw [if_neg h2]
    refine ybm 21 rfl (fun h5 => ?_) (fun h5 => ?_)
    · have h5 : k = 3 := by simpa using h5
      (repeat (first | refine zI ?_ | refine zL ?_ | refine zC ?_ | refine yai ?_ | refine yaj ?_ | refine zR ?_ | refine zD ?_ | refine zK ?_ | refine zB ?_ | refine zA ?_ | refine zS ?_ | refine zU ?_ | refine zV ?_ | refine zF ?_ | with_reducible refine yac ?_ | with_reducible refine yag ?_ | refine yad ?_ | refine yae ?_ | refine yaf ?_ | refine zT ?_ | refine zE ?_ | refine zX ?_))
      refine yaq rfl (fun h6 => ?_) (fun h6 => ?_)
      · rw [beq_bl] at h6
        have h6 : bl s = noneW := of_decide_eq_true h6
        (repeat (first | refine zI ?_ | refine zL ?_ | refine zC ?_ | refine yai ?_ | refine yaj ?_ | refine zR ?_ | refine zD ?_ | refine zK ?_ | refine zB ?_ | refine zA ?_ | refine zS ?_ | refine zU ?_ | refine zV ?_ | refine zF ?_ | with_reducible refine yac ?_ | with_reducible refine yag ?_ | refine yad ?_ | refine yae ?_ | refine yaf ?_ | refine zT ?_ | refine zE ?_ | refine zX ?_))
        refine yas ?_; refine ⟨_, rfl, ?_⟩
        exact frz_val (by rw [ycz, if_neg h2, if_pos ⟨h5, h6⟩]; rfl) (by rw [ycz, if_neg h2, if_pos ⟨h5, h6⟩]; rfl)
      · rw [beq_bl] at h6
        have h6 : bl s ≠ noneW := of_decide_eq_false h6
        (repeat (first | refine zI ?_ | refine zL ?_ | refine zC ?_ | refine yai ?_ | refine yaj ?_ | refine zR ?_ | refine zD ?_ | refine zK ?_ | refine zB ?_ | refine zA ?_ | refine zS ?_ | refine zU ?_ | refine zV ?_ | refine zF ?_ | with_reducible refine yac ?_ | with_reducible refine yag ?_ | refine yad ?_ | refine yae ?_ | refine yaf ?_ | refine zT ?_ | refine zE ?_ | refine zX ?_ | refine yar rfl rfl (rnumber_con s hs) rfl rfl ?_))
        refine yas ?_; refine ⟨_, rfl, ?_⟩
        have e : ycz k (bl s) = (ycb (bl s)).map fun n => (n : Int) := by rw [ycz, if_neg h2, if_neg (fun q => h6 q.2)]
        exact frz_val (by rw [e]; cases ycb (bl s) <;> rfl) (by rw [e]; cases ycb (bl s) <;> rfl)
    · have h5 : k ≠ 3 := by simpa using h5
      (repeat (first | refine zI ?_ | refine zL ?_ | refine zC ?_ | refine yai ?_ | refine yaj ?_ | refine zR ?_ | refine zD ?_ | refine zK ?_ | refine zB ?_ | refine zA ?_ | refine zS ?_ | refine zU ?_ | refine zV ?_ | refine zF ?_ | with_reducible refine yac ?_ | with_reducible refine yag ?_ | refine yad ?_ | refine yae ?_ | refine yaf ?_ | refine zT ?_ | refine zE ?_ | refine zX ?_ | refine yar rfl rfl (rnumber_con s hs) rfl rfl ?_))
      refine yas ?_; refine ⟨_, rfl, ?_⟩
      have e : ycz k (bl s) = (ycb (bl s)).map fun n => (n : Int) := by rw [ycz, if_neg h2, if_neg (fun q => h5 q.1)]
      exact frz_val (by rw [e]; cases ycb (bl s) <;> rfl) (by rw [e]; cases ycb (bl s) <;> rfl)
end Go.Proofs.YtmlkdoimkdbdpaaGreatDoor
