/- The words of the rule language: the walks over Reserved and Name, of the program and of the reference. -/
import Derived.Test.YtogennegbihceaaLexWalk1
set_option maxRecDepth 100000
namespace Go.Proofs.Ytogennegbihceaa
open Go.RowKit

def resW : List (List UInt8) := [[112, 114, 111, 103, 114, 97, 109], [118, 97, 114], [114, 117, 108, 101], [98, 111, 111, 108], [112, 111, 114, 116], [116, 114, 117, 101], [102, 97, 108, 115, 101], [110, 111, 110, 101], [110], [105, 100, 115], [105, 100], [100, 101, 103], [114, 111, 111, 116], [113], [119, 101, 105, 103, 104, 116], [98, 97, 99, 107], [97, 108, 108], [115, 111, 109, 101], [99, 111, 117, 110, 116], [102, 105, 114, 115, 116], [109, 105, 110], [109, 97, 120], [115, 117, 109], [109, 101, 120], [115, 101, 99, 111, 110, 100], [104, 101, 97, 100]]
def resB (s : ByteArray) : Bool := resW.any (fun x => s.toList == x)
theorem resB_no (s : ByteArray) (q0 : (s.toList == [112, 114, 111, 103, 114, 97, 109]) = false) (q1 : (s.toList == [118, 97, 114]) = false) (q2 : (s.toList == [114, 117, 108, 101]) = false) (q3 : (s.toList == [98, 111, 111, 108]) = false) (q4 : (s.toList == [112, 111, 114, 116]) = false) (q5 : (s.toList == [116, 114, 117, 101]) = false) (q6 : (s.toList == [102, 97, 108, 115, 101]) = false) (q7 : (s.toList == [110, 111, 110, 101]) = false) (q8 : (s.toList == [110]) = false) (q9 : (s.toList == [105, 100, 115]) = false) (q10 : (s.toList == [105, 100]) = false) (q11 : (s.toList == [100, 101, 103]) = false) (q12 : (s.toList == [114, 111, 111, 116]) = false) (q13 : (s.toList == [113]) = false) (q14 : (s.toList == [119, 101, 105, 103, 104, 116]) = false) (q15 : (s.toList == [98, 97, 99, 107]) = false) (q16 : (s.toList == [97, 108, 108]) = false) (q17 : (s.toList == [115, 111, 109, 101]) = false) (q18 : (s.toList == [99, 111, 117, 110, 116]) = false) (q19 : (s.toList == [102, 105, 114, 115, 116]) = false) (q20 : (s.toList == [109, 105, 110]) = false) (q21 : (s.toList == [109, 97, 120]) = false) (q22 : (s.toList == [115, 117, 109]) = false) (q23 : (s.toList == [109, 101, 120]) = false) (q24 : (s.toList == [115, 101, 99, 111, 110, 100]) = false) (q25 : (s.toList == [104, 101, 97, 100]) = false) : resB s = false := by
  simp only [resB, resW, List.any_cons, List.any_nil, q0, q1, q2, q3, q4, q5, q6, q7, q8, q9, q10, q11, q12, q13, q14, q15, q16, q17, q18, q19, q20, q21, q22, q23, q24, q25, Bool.or_false]
theorem resB_yes (s : ByteArray) (x : List UInt8) (hx : resW.contains x = true) (h : (s.toList == x) = true) : resB s = true := by
  unfold resB
  rw [List.any_eq_true]
  exact ⟨x, List.contains_iff_mem.1 hx, h⟩

set_option maxHeartbeats 4000000 in
theorem reserved_any (s : ByteArray) (w : World) :
    Calls Try.prog 62 #[.string s] w fun e w' => e = .returned (.bool (resB s)) ∧ w = w' := by
  rcases Bool.eq_false_or_eq_true (s.toList == [112, 114, 111, 103, 114, 97, 109]) with q0 | q0
  · have H := Lib.hid (resB_yes s _ (by decide) q0)
    go_enter Try.func62, Try.ntmps62
    go_wp2
    go_ret
    exact ⟨ret_bool H.out.symm, rfl⟩
  rcases Bool.eq_false_or_eq_true (s.toList == [118, 97, 114]) with q1 | q1
  · have H := Lib.hid (resB_yes s _ (by decide) q1)
    go_enter Try.func62, Try.ntmps62
    go_wp2
    go_ret
    exact ⟨ret_bool H.out.symm, rfl⟩
  rcases Bool.eq_false_or_eq_true (s.toList == [114, 117, 108, 101]) with q2 | q2
  · have H := Lib.hid (resB_yes s _ (by decide) q2)
    go_enter Try.func62, Try.ntmps62
    go_wp2
    go_ret
    exact ⟨ret_bool H.out.symm, rfl⟩
  rcases Bool.eq_false_or_eq_true (s.toList == [98, 111, 111, 108]) with q3 | q3
  · have H := Lib.hid (resB_yes s _ (by decide) q3)
    go_enter Try.func62, Try.ntmps62
    go_wp2
    go_ret
    exact ⟨ret_bool H.out.symm, rfl⟩
  rcases Bool.eq_false_or_eq_true (s.toList == [112, 111, 114, 116]) with q4 | q4
  · have H := Lib.hid (resB_yes s _ (by decide) q4)
    go_enter Try.func62, Try.ntmps62
    go_wp2
    go_ret
    exact ⟨ret_bool H.out.symm, rfl⟩
  rcases Bool.eq_false_or_eq_true (s.toList == [116, 114, 117, 101]) with q5 | q5
  · have H := Lib.hid (resB_yes s _ (by decide) q5)
    go_enter Try.func62, Try.ntmps62
    go_wp2
    go_ret
    exact ⟨ret_bool H.out.symm, rfl⟩
  rcases Bool.eq_false_or_eq_true (s.toList == [102, 97, 108, 115, 101]) with q6 | q6
  · have H := Lib.hid (resB_yes s _ (by decide) q6)
    go_enter Try.func62, Try.ntmps62
    go_wp2
    go_ret
    exact ⟨ret_bool H.out.symm, rfl⟩
  rcases Bool.eq_false_or_eq_true (s.toList == [110, 111, 110, 101]) with q7 | q7
  · have H := Lib.hid (resB_yes s _ (by decide) q7)
    go_enter Try.func62, Try.ntmps62
    go_wp2
    go_ret
    exact ⟨ret_bool H.out.symm, rfl⟩
  rcases Bool.eq_false_or_eq_true (s.toList == [110]) with q8 | q8
  · have H := Lib.hid (resB_yes s _ (by decide) q8)
    go_enter Try.func62, Try.ntmps62
    go_wp2
    go_ret
    exact ⟨ret_bool H.out.symm, rfl⟩
  rcases Bool.eq_false_or_eq_true (s.toList == [105, 100, 115]) with q9 | q9
  · have H := Lib.hid (resB_yes s _ (by decide) q9)
    go_enter Try.func62, Try.ntmps62
    go_wp2
    go_ret
    exact ⟨ret_bool H.out.symm, rfl⟩
  rcases Bool.eq_false_or_eq_true (s.toList == [105, 100]) with q10 | q10
  · have H := Lib.hid (resB_yes s _ (by decide) q10)
    go_enter Try.func62, Try.ntmps62
    go_wp2
    go_ret
    exact ⟨ret_bool H.out.symm, rfl⟩
  rcases Bool.eq_false_or_eq_true (s.toList == [100, 101, 103]) with q11 | q11
  · have H := Lib.hid (resB_yes s _ (by decide) q11)
    go_enter Try.func62, Try.ntmps62
    go_wp2
    go_ret
    exact ⟨ret_bool H.out.symm, rfl⟩
  rcases Bool.eq_false_or_eq_true (s.toList == [114, 111, 111, 116]) with q12 | q12
  · have H := Lib.hid (resB_yes s _ (by decide) q12)
    go_enter Try.func62, Try.ntmps62
    go_wp2
    go_ret
    exact ⟨ret_bool H.out.symm, rfl⟩
  rcases Bool.eq_false_or_eq_true (s.toList == [113]) with q13 | q13
  · have H := Lib.hid (resB_yes s _ (by decide) q13)
    go_enter Try.func62, Try.ntmps62
    go_wp2
    go_ret
    exact ⟨ret_bool H.out.symm, rfl⟩
  rcases Bool.eq_false_or_eq_true (s.toList == [119, 101, 105, 103, 104, 116]) with q14 | q14
  · have H := Lib.hid (resB_yes s _ (by decide) q14)
    go_enter Try.func62, Try.ntmps62
    go_wp2
    go_ret
    exact ⟨ret_bool H.out.symm, rfl⟩
  rcases Bool.eq_false_or_eq_true (s.toList == [98, 97, 99, 107]) with q15 | q15
  · have H := Lib.hid (resB_yes s _ (by decide) q15)
    go_enter Try.func62, Try.ntmps62
    go_wp2
    go_ret
    exact ⟨ret_bool H.out.symm, rfl⟩
  rcases Bool.eq_false_or_eq_true (s.toList == [97, 108, 108]) with q16 | q16
  · have H := Lib.hid (resB_yes s _ (by decide) q16)
    go_enter Try.func62, Try.ntmps62
    go_wp2
    go_ret
    exact ⟨ret_bool H.out.symm, rfl⟩
  rcases Bool.eq_false_or_eq_true (s.toList == [115, 111, 109, 101]) with q17 | q17
  · have H := Lib.hid (resB_yes s _ (by decide) q17)
    go_enter Try.func62, Try.ntmps62
    go_wp2
    go_ret
    exact ⟨ret_bool H.out.symm, rfl⟩
  rcases Bool.eq_false_or_eq_true (s.toList == [99, 111, 117, 110, 116]) with q18 | q18
  · have H := Lib.hid (resB_yes s _ (by decide) q18)
    go_enter Try.func62, Try.ntmps62
    go_wp2
    go_ret
    exact ⟨ret_bool H.out.symm, rfl⟩
  rcases Bool.eq_false_or_eq_true (s.toList == [102, 105, 114, 115, 116]) with q19 | q19
  · have H := Lib.hid (resB_yes s _ (by decide) q19)
    go_enter Try.func62, Try.ntmps62
    go_wp2
    go_ret
    exact ⟨ret_bool H.out.symm, rfl⟩
  rcases Bool.eq_false_or_eq_true (s.toList == [109, 105, 110]) with q20 | q20
  · have H := Lib.hid (resB_yes s _ (by decide) q20)
    go_enter Try.func62, Try.ntmps62
    go_wp2
    go_ret
    exact ⟨ret_bool H.out.symm, rfl⟩
  rcases Bool.eq_false_or_eq_true (s.toList == [109, 97, 120]) with q21 | q21
  · have H := Lib.hid (resB_yes s _ (by decide) q21)
    go_enter Try.func62, Try.ntmps62
    go_wp2
    go_ret
    exact ⟨ret_bool H.out.symm, rfl⟩
  rcases Bool.eq_false_or_eq_true (s.toList == [115, 117, 109]) with q22 | q22
  · have H := Lib.hid (resB_yes s _ (by decide) q22)
    go_enter Try.func62, Try.ntmps62
    go_wp2
    go_ret
    exact ⟨ret_bool H.out.symm, rfl⟩
  rcases Bool.eq_false_or_eq_true (s.toList == [109, 101, 120]) with q23 | q23
  · have H := Lib.hid (resB_yes s _ (by decide) q23)
    go_enter Try.func62, Try.ntmps62
    go_wp2
    go_ret
    exact ⟨ret_bool H.out.symm, rfl⟩
  rcases Bool.eq_false_or_eq_true (s.toList == [115, 101, 99, 111, 110, 100]) with q24 | q24
  · have H := Lib.hid (resB_yes s _ (by decide) q24)
    go_enter Try.func62, Try.ntmps62
    go_wp2
    go_ret
    exact ⟨ret_bool H.out.symm, rfl⟩
  rcases Bool.eq_false_or_eq_true (s.toList == [104, 101, 97, 100]) with q25 | q25
  · have H := Lib.hid (resB_yes s _ (by decide) q25)
    go_enter Try.func62, Try.ntmps62
    go_wp2
    go_ret
    exact ⟨ret_bool H.out.symm, rfl⟩
  have H := Lib.hid (resB_no s q0 q1 q2 q3 q4 q5 q6 q7 q8 q9 q10 q11 q12 q13 q14 q15 q16 q17 q18 q19 q20 q21 q22 q23 q24 q25)
  go_enter Try.func62, Try.ntmps62
  go_wp2
  go_ret
  exact ⟨ret_bool H.out.symm, rfl⟩

set_option maxHeartbeats 4000000 in
theorem rreserved_any (s : ByteArray) (w : World) :
    Calls Try.prog 45 #[.string s] w fun e w' => e = .returned (.bool (resB s)) ∧ w = w' := by
  rcases Bool.eq_false_or_eq_true (s.toList == [112, 114, 111, 103, 114, 97, 109]) with q0 | q0
  · have H := Lib.hid (resB_yes s _ (by decide) q0)
    go_enter Try.func45, Try.ntmps45
    go_wp2
    go_ret
    exact ⟨ret_bool H.out.symm, rfl⟩
  rcases Bool.eq_false_or_eq_true (s.toList == [118, 97, 114]) with q1 | q1
  · have H := Lib.hid (resB_yes s _ (by decide) q1)
    go_enter Try.func45, Try.ntmps45
    go_wp2
    go_ret
    exact ⟨ret_bool H.out.symm, rfl⟩
  rcases Bool.eq_false_or_eq_true (s.toList == [114, 117, 108, 101]) with q2 | q2
  · have H := Lib.hid (resB_yes s _ (by decide) q2)
    go_enter Try.func45, Try.ntmps45
    go_wp2
    go_ret
    exact ⟨ret_bool H.out.symm, rfl⟩
  rcases Bool.eq_false_or_eq_true (s.toList == [98, 111, 111, 108]) with q3 | q3
  · have H := Lib.hid (resB_yes s _ (by decide) q3)
    go_enter Try.func45, Try.ntmps45
    go_wp2
    go_ret
    exact ⟨ret_bool H.out.symm, rfl⟩
  rcases Bool.eq_false_or_eq_true (s.toList == [112, 111, 114, 116]) with q4 | q4
  · have H := Lib.hid (resB_yes s _ (by decide) q4)
    go_enter Try.func45, Try.ntmps45
    go_wp2
    go_ret
    exact ⟨ret_bool H.out.symm, rfl⟩
  rcases Bool.eq_false_or_eq_true (s.toList == [116, 114, 117, 101]) with q5 | q5
  · have H := Lib.hid (resB_yes s _ (by decide) q5)
    go_enter Try.func45, Try.ntmps45
    go_wp2
    go_ret
    exact ⟨ret_bool H.out.symm, rfl⟩
  rcases Bool.eq_false_or_eq_true (s.toList == [102, 97, 108, 115, 101]) with q6 | q6
  · have H := Lib.hid (resB_yes s _ (by decide) q6)
    go_enter Try.func45, Try.ntmps45
    go_wp2
    go_ret
    exact ⟨ret_bool H.out.symm, rfl⟩
  rcases Bool.eq_false_or_eq_true (s.toList == [110, 111, 110, 101]) with q7 | q7
  · have H := Lib.hid (resB_yes s _ (by decide) q7)
    go_enter Try.func45, Try.ntmps45
    go_wp2
    go_ret
    exact ⟨ret_bool H.out.symm, rfl⟩
  rcases Bool.eq_false_or_eq_true (s.toList == [110]) with q8 | q8
  · have H := Lib.hid (resB_yes s _ (by decide) q8)
    go_enter Try.func45, Try.ntmps45
    go_wp2
    go_ret
    exact ⟨ret_bool H.out.symm, rfl⟩
  rcases Bool.eq_false_or_eq_true (s.toList == [105, 100, 115]) with q9 | q9
  · have H := Lib.hid (resB_yes s _ (by decide) q9)
    go_enter Try.func45, Try.ntmps45
    go_wp2
    go_ret
    exact ⟨ret_bool H.out.symm, rfl⟩
  rcases Bool.eq_false_or_eq_true (s.toList == [105, 100]) with q10 | q10
  · have H := Lib.hid (resB_yes s _ (by decide) q10)
    go_enter Try.func45, Try.ntmps45
    go_wp2
    go_ret
    exact ⟨ret_bool H.out.symm, rfl⟩
  rcases Bool.eq_false_or_eq_true (s.toList == [100, 101, 103]) with q11 | q11
  · have H := Lib.hid (resB_yes s _ (by decide) q11)
    go_enter Try.func45, Try.ntmps45
    go_wp2
    go_ret
    exact ⟨ret_bool H.out.symm, rfl⟩
  rcases Bool.eq_false_or_eq_true (s.toList == [114, 111, 111, 116]) with q12 | q12
  · have H := Lib.hid (resB_yes s _ (by decide) q12)
    go_enter Try.func45, Try.ntmps45
    go_wp2
    go_ret
    exact ⟨ret_bool H.out.symm, rfl⟩
  rcases Bool.eq_false_or_eq_true (s.toList == [113]) with q13 | q13
  · have H := Lib.hid (resB_yes s _ (by decide) q13)
    go_enter Try.func45, Try.ntmps45
    go_wp2
    go_ret
    exact ⟨ret_bool H.out.symm, rfl⟩
  rcases Bool.eq_false_or_eq_true (s.toList == [119, 101, 105, 103, 104, 116]) with q14 | q14
  · have H := Lib.hid (resB_yes s _ (by decide) q14)
    go_enter Try.func45, Try.ntmps45
    go_wp2
    go_ret
    exact ⟨ret_bool H.out.symm, rfl⟩
  rcases Bool.eq_false_or_eq_true (s.toList == [98, 97, 99, 107]) with q15 | q15
  · have H := Lib.hid (resB_yes s _ (by decide) q15)
    go_enter Try.func45, Try.ntmps45
    go_wp2
    go_ret
    exact ⟨ret_bool H.out.symm, rfl⟩
  rcases Bool.eq_false_or_eq_true (s.toList == [97, 108, 108]) with q16 | q16
  · have H := Lib.hid (resB_yes s _ (by decide) q16)
    go_enter Try.func45, Try.ntmps45
    go_wp2
    go_ret
    exact ⟨ret_bool H.out.symm, rfl⟩
  rcases Bool.eq_false_or_eq_true (s.toList == [115, 111, 109, 101]) with q17 | q17
  · have H := Lib.hid (resB_yes s _ (by decide) q17)
    go_enter Try.func45, Try.ntmps45
    go_wp2
    go_ret
    exact ⟨ret_bool H.out.symm, rfl⟩
  rcases Bool.eq_false_or_eq_true (s.toList == [99, 111, 117, 110, 116]) with q18 | q18
  · have H := Lib.hid (resB_yes s _ (by decide) q18)
    go_enter Try.func45, Try.ntmps45
    go_wp2
    go_ret
    exact ⟨ret_bool H.out.symm, rfl⟩
  rcases Bool.eq_false_or_eq_true (s.toList == [102, 105, 114, 115, 116]) with q19 | q19
  · have H := Lib.hid (resB_yes s _ (by decide) q19)
    go_enter Try.func45, Try.ntmps45
    go_wp2
    go_ret
    exact ⟨ret_bool H.out.symm, rfl⟩
  rcases Bool.eq_false_or_eq_true (s.toList == [109, 105, 110]) with q20 | q20
  · have H := Lib.hid (resB_yes s _ (by decide) q20)
    go_enter Try.func45, Try.ntmps45
    go_wp2
    go_ret
    exact ⟨ret_bool H.out.symm, rfl⟩
  rcases Bool.eq_false_or_eq_true (s.toList == [109, 97, 120]) with q21 | q21
  · have H := Lib.hid (resB_yes s _ (by decide) q21)
    go_enter Try.func45, Try.ntmps45
    go_wp2
    go_ret
    exact ⟨ret_bool H.out.symm, rfl⟩
  rcases Bool.eq_false_or_eq_true (s.toList == [115, 117, 109]) with q22 | q22
  · have H := Lib.hid (resB_yes s _ (by decide) q22)
    go_enter Try.func45, Try.ntmps45
    go_wp2
    go_ret
    exact ⟨ret_bool H.out.symm, rfl⟩
  rcases Bool.eq_false_or_eq_true (s.toList == [109, 101, 120]) with q23 | q23
  · have H := Lib.hid (resB_yes s _ (by decide) q23)
    go_enter Try.func45, Try.ntmps45
    go_wp2
    go_ret
    exact ⟨ret_bool H.out.symm, rfl⟩
  rcases Bool.eq_false_or_eq_true (s.toList == [115, 101, 99, 111, 110, 100]) with q24 | q24
  · have H := Lib.hid (resB_yes s _ (by decide) q24)
    go_enter Try.func45, Try.ntmps45
    go_wp2
    go_ret
    exact ⟨ret_bool H.out.symm, rfl⟩
  rcases Bool.eq_false_or_eq_true (s.toList == [104, 101, 97, 100]) with q25 | q25
  · have H := Lib.hid (resB_yes s _ (by decide) q25)
    go_enter Try.func45, Try.ntmps45
    go_wp2
    go_ret
    exact ⟨ret_bool H.out.symm, rfl⟩
  have H := Lib.hid (resB_no s q0 q1 q2 q3 q4 q5 q6 q7 q8 q9 q10 q11 q12 q13 q14 q15 q16 q17 q18 q19 q20 q21 q22 q23 q24 q25)
  go_enter Try.func45, Try.ntmps45
  go_wp2
  go_ret
  exact ⟨ret_bool H.out.symm, rfl⟩

/-- Whether a string can be the name of something. -/
def nameB (s : ByteArray) : Bool :=
  match bytesFrom s 0 with
  | [] => false
  | c :: r => decide (s.size ≤ 24) && (letterB c && ((c :: r).all wordB && !resB s))
theorem nameB_empty (s : ByteArray) (h : s.size = 0) : nameB s = false := by
  unfold nameB; rw [bytesFrom_ge s 0 (by omega)]
theorem nameB_long (s : ByteArray) (h : 24 < s.size) : nameB s = false := by
  unfold nameB; rw [bytesFrom_lt s 0 (by omega)]; simp; omega
theorem nameB_letter (s : ByteArray) (h : 0 < s.size) (hl : letterB s[0] = false) : nameB s = false := by
  unfold nameB; rw [bytesFrom_lt s 0 h]; simp [hl]
theorem nameB_word (s : ByteArray) (k : Nat) (h : k < s.size) (hw : wordB s[k] = false) : nameB s = false := by
  have hm := mem_bytes s k h
  unfold nameB
  cases hb : bytesFrom s 0 with
  | nil => rfl
  | cons c r =>
    rw [hb] at hm
    have : (c :: r).all wordB = false := by
      rw [List.all_eq_false]; exact ⟨s[k], hm, by simp [hw]⟩
    simp only [this, Bool.false_and, Bool.and_false]
theorem nameB_rest (s : ByteArray) (h : 0 < s.size) (h24 : s.size ≤ 24) (hl : letterB s[0] = true) (ha : ((bytesFrom s 0).take s.size).all wordB = true) : nameB s = !resB s := by
  rw [take_all s _ (Nat.le_refl _)] at ha
  unfold nameB
  rw [bytesFrom_lt s 0 h] at *
  simp only [ha, hl, h24, decide_true, Bool.true_and]
theorem all_snoc (s : ByteArray) (k : Nat) (h : k < s.size) (ha : ((bytesFrom s 0).take k).all wordB = true) (hw : wordB s[k] = true) : ((bytesFrom s 0).take (k + 1)).all wordB = true := by
  rw [take_snoc s k h, List.all_append, ha]; simp [hw]

set_option maxHeartbeats 1000000 in
theorem name_any (s : ByteArray) (w : World) (hs : s.size ≤ 9223372036854775807) :
    Calls Try.prog 41 #[.string s] w fun e w' => e = .returned (.bool (nameB s)) ∧ w = w' := by
  by_cases h0 : s.size = 0
  · have H := Lib.hid (nameB_empty s h0)
    have h0' : s.size < 1 := by omega
    clear h0
    go_enter Try.func41, Try.ntmps41
    go_wp2
    go_ret
    exact ⟨ret_bool H.out.symm, rfl⟩
  have h0' : 0 < s.size := by omega
  clear h0
  by_cases h24 : 24 < s.size
  · have H := Lib.hid (nameB_long s h24)
    go_enter Try.func41, Try.ntmps41
    go_wp2
    go_ret
    exact ⟨ret_bool H.out.symm, rfl⟩
  cases hl : letterB s[0]
  · have H := Lib.hid (nameB_letter s h0' hl)
    go_enter Try.func41, Try.ntmps41
    go_wp2_with (go_at_call 60; refine (letter_any _ _).mono ?_; rintro e w' ⟨rfl, rfl⟩)
    go_ret
    exact ⟨ret_bool H.out.symm, rfl⟩
  go_enter Try.func41, Try.ntmps41
  go_wp2_with (go_at_call 60; refine (letter_any _ _).mono ?_; rintro e w' ⟨rfl, rfl⟩)
  go_loop [3, 20] (fun _ i => ∃ k : Nat, k ≤ s.size ∧ i = .int .i64 k ∧ Hid (((bytesFrom s 0).take k).all wordB = true)) (fun _ i => s.size - (intOf i).toNat)
  case atStart => exact ⟨0, by omega, rfl, rfl⟩
  case round =>
    obtain ⟨k, hk, rfl, ha⟩ := hrel
    by_cases hlt : k < s.size
    · cases hw : wordB s[k]
      · have H := Lib.hid (nameB_word s k hlt hw)
        go_wp2_with (go_at_call 61; refine (inWord_any _ _).mono ?_; rintro e w' ⟨rfl, rfl⟩)
        go_ret
        exact ⟨ret_bool H.out.symm, rfl⟩
      · have H := Lib.hid (all_snoc s k hlt ha.out hw)
        go_wp2_with (go_at_call 61; refine (inWord_any _ _).mono ?_; rintro e w' ⟨rfl, rfl⟩)
        exact ⟨⟨k + 1, by omega, by go_num, H⟩, by simp [intOf]; omega⟩
    · obtain rfl : k = s.size := by omega
      have H := Lib.hid (nameB_rest s h0' (by omega) hl ha.out)
      go_wp2_with (go_at_call 62; refine (reserved_any _ _).mono ?_; rintro e w' ⟨rfl, rfl⟩)
      go_ret
      exact ⟨ret_bool H.out.symm, rfl⟩

set_option maxHeartbeats 1000000 in
theorem rname_any (s : ByteArray) (w : World) (hs : s.size ≤ 9223372036854775807) :
    Calls Try.prog 28 #[.string s] w fun e w' => e = .returned (.bool (nameB s)) ∧ w = w' := by
  by_cases h0 : s.size = 0
  · have H := Lib.hid (nameB_empty s h0)
    have h0' : s.size < 1 := by omega
    clear h0
    go_enter Try.func28, Try.ntmps28
    go_wp2
    go_ret
    exact ⟨ret_bool H.out.symm, rfl⟩
  have h0' : 0 < s.size := by omega
  clear h0
  by_cases h24 : 24 < s.size
  · have H := Lib.hid (nameB_long s h24)
    go_enter Try.func28, Try.ntmps28
    go_wp2
    go_ret
    exact ⟨ret_bool H.out.symm, rfl⟩
  cases hl : letterB s[0]
  · have H := Lib.hid (nameB_letter s h0' hl)
    go_enter Try.func28, Try.ntmps28
    go_wp2_with (go_at_call 43; refine (rletter_any _ _).mono ?_; rintro e w' ⟨rfl, rfl⟩)
    go_ret
    exact ⟨ret_bool H.out.symm, rfl⟩
  go_enter Try.func28, Try.ntmps28
  go_wp2_with (go_at_call 43; refine (rletter_any _ _).mono ?_; rintro e w' ⟨rfl, rfl⟩)
  go_loop [3] (fun i => ∃ k : Nat, k ≤ s.size ∧ i = .int .i64 k ∧ Hid (((bytesFrom s 0).take k).all wordB = true)) (fun i => s.size - (intOf i).toNat)
  case atStart => exact ⟨1, by omega, rfl, by rw [bytesFrom_lt s 0 h0']; show (List.take 1 _).all wordB = true; simp [wordB, hl]⟩
  case round =>
    obtain ⟨k, hk, rfl, ha⟩ := hrel
    by_cases hlt : k < s.size
    · cases hw : wordB s[k]
      · have H := Lib.hid (nameB_word s k hlt hw)
        go_wp2_with (go_at_call 44; refine (rinner_any _ _).mono ?_; rintro e w' ⟨rfl, rfl⟩)
        go_ret
        exact ⟨ret_bool H.out.symm, rfl⟩
      · have H := Lib.hid (all_snoc s k hlt ha.out hw)
        go_wp2_with (go_at_call 44; refine (rinner_any _ _).mono ?_; rintro e w' ⟨rfl, rfl⟩)
        exact ⟨⟨k + 1, by omega, by go_num, H⟩, by simp [intOf]; omega⟩
    · obtain rfl : k = s.size := by omega
      have H := Lib.hid (nameB_rest s h0' (by omega) hl ha.out)
      go_wp2_with (go_at_call 45; refine (rreserved_any _ _).mono ?_; rintro e w' ⟨rfl, rfl⟩)
      go_ret
      exact ⟨ret_bool H.out.symm, rfl⟩

theorem name_not_reserved (s : ByteArray) (h : nameB s = true) : resB s = false := by
  unfold nameB at h
  split at h
  · cases h
  · simp at h; exact h.2.2.2
end Go.Proofs.Ytogennegbihceaa
