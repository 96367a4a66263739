/- Part 13 of the texts under ExprParses,ExprIsStable,ExprReadsBack,ExprIgnoresBrackets,ExprFormats,ExprBracketsEverything: joined, with what it needs alone. -/
import Derived.Test.YtcpgpiabeimefaaGreatDoorP7
import Derived.Test.YtcpgpiabeimefaaGreatDoorP9
import Derived.Test.YtcpgpiabeimefaaGreatDoorP11
import Derived.Test.YtcpgpiabeimefaaGreatDoorP12
set_option maxRecDepth 100000
namespace Go.Proofs.YtcpgpiabeimefaaGreatDoor
open Go.RowKit

theorem reserved_any (s : ByteArray) (w : World) :
    Calls Tryz.prog 76 #[.string s] w fun e w' => e = .returned (.bool (resB s)) ∧ w = w' := by
  rcases Bool.eq_false_or_eq_true (s.toList == [112, 114, 111, 103, 114, 97, 109]) with q0 | q0
  · have H := Lib.hid (ybf s _ (by decide) q0)
    go_enter Tryz.func76, Tryz.ntmps76
    go_wp2
    go_ret
    exact ⟨yas H.out.symm, rfl⟩
  rcases Bool.eq_false_or_eq_true (s.toList == [118, 97, 114]) with q1 | q1
  · have H := Lib.hid (ybf s _ (by decide) q1)
    go_enter Tryz.func76, Tryz.ntmps76
    go_wp2
    go_ret
    exact ⟨yas H.out.symm, rfl⟩
  rcases Bool.eq_false_or_eq_true (s.toList == [114, 117, 108, 101]) with q2 | q2
  · have H := Lib.hid (ybf s _ (by decide) q2)
    go_enter Tryz.func76, Tryz.ntmps76
    go_wp2
    go_ret
    exact ⟨yas H.out.symm, rfl⟩
  rcases Bool.eq_false_or_eq_true (s.toList == [98, 111, 111, 108]) with q3 | q3
  · have H := Lib.hid (ybf s _ (by decide) q3)
    go_enter Tryz.func76, Tryz.ntmps76
    go_wp2
    go_ret
    exact ⟨yas H.out.symm, rfl⟩
  rcases Bool.eq_false_or_eq_true (s.toList == [112, 111, 114, 116]) with q4 | q4
  · have H := Lib.hid (ybf s _ (by decide) q4)
    go_enter Tryz.func76, Tryz.ntmps76
    go_wp2
    go_ret
    exact ⟨yas H.out.symm, rfl⟩
  rcases Bool.eq_false_or_eq_true (s.toList == [116, 114, 117, 101]) with q5 | q5
  · have H := Lib.hid (ybf s _ (by decide) q5)
    go_enter Tryz.func76, Tryz.ntmps76
    go_wp2
    go_ret
    exact ⟨yas H.out.symm, rfl⟩
  rcases Bool.eq_false_or_eq_true (s.toList == [102, 97, 108, 115, 101]) with q6 | q6
  · have H := Lib.hid (ybf s _ (by decide) q6)
    go_enter Tryz.func76, Tryz.ntmps76
    go_wp2
    go_ret
    exact ⟨yas H.out.symm, rfl⟩
  rcases Bool.eq_false_or_eq_true (s.toList == [110, 111, 110, 101]) with q7 | q7
  · have H := Lib.hid (ybf s _ (by decide) q7)
    go_enter Tryz.func76, Tryz.ntmps76
    go_wp2
    go_ret
    exact ⟨yas H.out.symm, rfl⟩
  rcases Bool.eq_false_or_eq_true (s.toList == [110]) with q8 | q8
  · have H := Lib.hid (ybf s _ (by decide) q8)
    go_enter Tryz.func76, Tryz.ntmps76
    go_wp2
    go_ret
    exact ⟨yas H.out.symm, rfl⟩
  rcases Bool.eq_false_or_eq_true (s.toList == [105, 100, 115]) with q9 | q9
  · have H := Lib.hid (ybf s _ (by decide) q9)
    go_enter Tryz.func76, Tryz.ntmps76
    go_wp2
    go_ret
    exact ⟨yas H.out.symm, rfl⟩
  rcases Bool.eq_false_or_eq_true (s.toList == [105, 100]) with q10 | q10
  · have H := Lib.hid (ybf s _ (by decide) q10)
    go_enter Tryz.func76, Tryz.ntmps76
    go_wp2
    go_ret
    exact ⟨yas H.out.symm, rfl⟩
  rcases Bool.eq_false_or_eq_true (s.toList == [100, 101, 103]) with q11 | q11
  · have H := Lib.hid (ybf s _ (by decide) q11)
    go_enter Tryz.func76, Tryz.ntmps76
    go_wp2
    go_ret
    exact ⟨yas H.out.symm, rfl⟩
  rcases Bool.eq_false_or_eq_true (s.toList == [114, 111, 111, 116]) with q12 | q12
  · have H := Lib.hid (ybf s _ (by decide) q12)
    go_enter Tryz.func76, Tryz.ntmps76
    go_wp2
    go_ret
    exact ⟨yas H.out.symm, rfl⟩
  rcases Bool.eq_false_or_eq_true (s.toList == [113]) with q13 | q13
  · have H := Lib.hid (ybf s _ (by decide) q13)
    go_enter Tryz.func76, Tryz.ntmps76
    go_wp2
    go_ret
    exact ⟨yas H.out.symm, rfl⟩
  rcases Bool.eq_false_or_eq_true (s.toList == [119, 101, 105, 103, 104, 116]) with q14 | q14
  · have H := Lib.hid (ybf s _ (by decide) q14)
    go_enter Tryz.func76, Tryz.ntmps76
    go_wp2
    go_ret
    exact ⟨yas H.out.symm, rfl⟩
  rcases Bool.eq_false_or_eq_true (s.toList == [98, 97, 99, 107]) with q15 | q15
  · have H := Lib.hid (ybf s _ (by decide) q15)
    go_enter Tryz.func76, Tryz.ntmps76
    go_wp2
    go_ret
    exact ⟨yas H.out.symm, rfl⟩
  rcases Bool.eq_false_or_eq_true (s.toList == [97, 108, 108]) with q16 | q16
  · have H := Lib.hid (ybf s _ (by decide) q16)
    go_enter Tryz.func76, Tryz.ntmps76
    go_wp2
    go_ret
    exact ⟨yas H.out.symm, rfl⟩
  rcases Bool.eq_false_or_eq_true (s.toList == [115, 111, 109, 101]) with q17 | q17
  · have H := Lib.hid (ybf s _ (by decide) q17)
    go_enter Tryz.func76, Tryz.ntmps76
    go_wp2
    go_ret
    exact ⟨yas H.out.symm, rfl⟩
  rcases Bool.eq_false_or_eq_true (s.toList == [99, 111, 117, 110, 116]) with q18 | q18
  · have H := Lib.hid (ybf s _ (by decide) q18)
    go_enter Tryz.func76, Tryz.ntmps76
    go_wp2
    go_ret
    exact ⟨yas H.out.symm, rfl⟩
  rcases Bool.eq_false_or_eq_true (s.toList == [102, 105, 114, 115, 116]) with q19 | q19
  · have H := Lib.hid (ybf s _ (by decide) q19)
    go_enter Tryz.func76, Tryz.ntmps76
    go_wp2
    go_ret
    exact ⟨yas H.out.symm, rfl⟩
  rcases Bool.eq_false_or_eq_true (s.toList == [109, 105, 110]) with q20 | q20
  · have H := Lib.hid (ybf s _ (by decide) q20)
    go_enter Tryz.func76, Tryz.ntmps76
    go_wp2
    go_ret
    exact ⟨yas H.out.symm, rfl⟩
  rcases Bool.eq_false_or_eq_true (s.toList == [109, 97, 120]) with q21 | q21
  · have H := Lib.hid (ybf s _ (by decide) q21)
    go_enter Tryz.func76, Tryz.ntmps76
    go_wp2
    go_ret
    exact ⟨yas H.out.symm, rfl⟩
  rcases Bool.eq_false_or_eq_true (s.toList == [115, 117, 109]) with q22 | q22
  · have H := Lib.hid (ybf s _ (by decide) q22)
    go_enter Tryz.func76, Tryz.ntmps76
    go_wp2
    go_ret
    exact ⟨yas H.out.symm, rfl⟩
  rcases Bool.eq_false_or_eq_true (s.toList == [109, 101, 120]) with q23 | q23
  · have H := Lib.hid (ybf s _ (by decide) q23)
    go_enter Tryz.func76, Tryz.ntmps76
    go_wp2
    go_ret
    exact ⟨yas H.out.symm, rfl⟩
  rcases Bool.eq_false_or_eq_true (s.toList == [115, 101, 99, 111, 110, 100]) with q24 | q24
  · have H := Lib.hid (ybf s _ (by decide) q24)
    go_enter Tryz.func76, Tryz.ntmps76
    go_wp2
    go_ret
    exact ⟨yas H.out.symm, rfl⟩
  rcases Bool.eq_false_or_eq_true (s.toList == [104, 101, 97, 100]) with q25 | q25
  · have H := Lib.hid (ybf s _ (by decide) q25)
    go_enter Tryz.func76, Tryz.ntmps76
    go_wp2
    go_ret
    exact ⟨yas H.out.symm, rfl⟩
  have H := Lib.hid (resB_no s q0 q1 q2 q3 q4 q5 q6 q7 q8 q9 q10 q11 q12 q13 q14 q15 q16 q17 q18 q19 q20 q21 q22 q23 q24 q25)
  go_enter Tryz.func76, Tryz.ntmps76
  go_wp2
  go_ret
  exact ⟨yas H.out.symm, rfl⟩

set_option maxHeartbeats 4000000 in
theorem rreserved_any (s : ByteArray) (w : World) :
    Calls Tryz.prog 94 #[.string s] w fun e w' => e = .returned (.bool (resB s)) ∧ w = w' := by
  rcases Bool.eq_false_or_eq_true (s.toList == [112, 114, 111, 103, 114, 97, 109]) with q0 | q0
  · have H := Lib.hid (ybf s _ (by decide) q0)
    go_enter Tryz.func94, Tryz.ntmps94
    go_wp2
    go_ret
    exact ⟨yas H.out.symm, rfl⟩
  rcases Bool.eq_false_or_eq_true (s.toList == [118, 97, 114]) with q1 | q1
  · have H := Lib.hid (ybf s _ (by decide) q1)
    go_enter Tryz.func94, Tryz.ntmps94
    go_wp2
    go_ret
    exact ⟨yas H.out.symm, rfl⟩
  rcases Bool.eq_false_or_eq_true (s.toList == [114, 117, 108, 101]) with q2 | q2
  · have H := Lib.hid (ybf s _ (by decide) q2)
    go_enter Tryz.func94, Tryz.ntmps94
    go_wp2
    go_ret
    exact ⟨yas H.out.symm, rfl⟩
  rcases Bool.eq_false_or_eq_true (s.toList == [98, 111, 111, 108]) with q3 | q3
  · have H := Lib.hid (ybf s _ (by decide) q3)
    go_enter Tryz.func94, Tryz.ntmps94
    go_wp2
    go_ret
    exact ⟨yas H.out.symm, rfl⟩
  rcases Bool.eq_false_or_eq_true (s.toList == [112, 111, 114, 116]) with q4 | q4
  · have H := Lib.hid (ybf s _ (by decide) q4)
    go_enter Tryz.func94, Tryz.ntmps94
    go_wp2
    go_ret
    exact ⟨yas H.out.symm, rfl⟩
  rcases Bool.eq_false_or_eq_true (s.toList == [116, 114, 117, 101]) with q5 | q5
  · have H := Lib.hid (ybf s _ (by decide) q5)
    go_enter Tryz.func94, Tryz.ntmps94
    go_wp2
    go_ret
    exact ⟨yas H.out.symm, rfl⟩
  rcases Bool.eq_false_or_eq_true (s.toList == [102, 97, 108, 115, 101]) with q6 | q6
  · have H := Lib.hid (ybf s _ (by decide) q6)
    go_enter Tryz.func94, Tryz.ntmps94
    go_wp2
    go_ret
    exact ⟨yas H.out.symm, rfl⟩
  rcases Bool.eq_false_or_eq_true (s.toList == [110, 111, 110, 101]) with q7 | q7
  · have H := Lib.hid (ybf s _ (by decide) q7)
    go_enter Tryz.func94, Tryz.ntmps94
    go_wp2
    go_ret
    exact ⟨yas H.out.symm, rfl⟩
  rcases Bool.eq_false_or_eq_true (s.toList == [110]) with q8 | q8
  · have H := Lib.hid (ybf s _ (by decide) q8)
    go_enter Tryz.func94, Tryz.ntmps94
    go_wp2
    go_ret
    exact ⟨yas H.out.symm, rfl⟩
  rcases Bool.eq_false_or_eq_true (s.toList == [105, 100, 115]) with q9 | q9
  · have H := Lib.hid (ybf s _ (by decide) q9)
    go_enter Tryz.func94, Tryz.ntmps94
    go_wp2
    go_ret
    exact ⟨yas H.out.symm, rfl⟩
  rcases Bool.eq_false_or_eq_true (s.toList == [105, 100]) with q10 | q10
  · have H := Lib.hid (ybf s _ (by decide) q10)
    go_enter Tryz.func94, Tryz.ntmps94
    go_wp2
    go_ret
    exact ⟨yas H.out.symm, rfl⟩
  rcases Bool.eq_false_or_eq_true (s.toList == [100, 101, 103]) with q11 | q11
  · have H := Lib.hid (ybf s _ (by decide) q11)
    go_enter Tryz.func94, Tryz.ntmps94
    go_wp2
    go_ret
    exact ⟨yas H.out.symm, rfl⟩
  rcases Bool.eq_false_or_eq_true (s.toList == [114, 111, 111, 116]) with q12 | q12
  · have H := Lib.hid (ybf s _ (by decide) q12)
    go_enter Tryz.func94, Tryz.ntmps94
    go_wp2
    go_ret
    exact ⟨yas H.out.symm, rfl⟩
  rcases Bool.eq_false_or_eq_true (s.toList == [113]) with q13 | q13
  · have H := Lib.hid (ybf s _ (by decide) q13)
    go_enter Tryz.func94, Tryz.ntmps94
    go_wp2
    go_ret
    exact ⟨yas H.out.symm, rfl⟩
  rcases Bool.eq_false_or_eq_true (s.toList == [119, 101, 105, 103, 104, 116]) with q14 | q14
  · have H := Lib.hid (ybf s _ (by decide) q14)
    go_enter Tryz.func94, Tryz.ntmps94
    go_wp2
    go_ret
    exact ⟨yas H.out.symm, rfl⟩
  rcases Bool.eq_false_or_eq_true (s.toList == [98, 97, 99, 107]) with q15 | q15
  · have H := Lib.hid (ybf s _ (by decide) q15)
    go_enter Tryz.func94, Tryz.ntmps94
    go_wp2
    go_ret
    exact ⟨yas H.out.symm, rfl⟩
  rcases Bool.eq_false_or_eq_true (s.toList == [97, 108, 108]) with q16 | q16
  · have H := Lib.hid (ybf s _ (by decide) q16)
    go_enter Tryz.func94, Tryz.ntmps94
    go_wp2
    go_ret
    exact ⟨yas H.out.symm, rfl⟩
  rcases Bool.eq_false_or_eq_true (s.toList == [115, 111, 109, 101]) with q17 | q17
  · have H := Lib.hid (ybf s _ (by decide) q17)
    go_enter Tryz.func94, Tryz.ntmps94
    go_wp2
    go_ret
    exact ⟨yas H.out.symm, rfl⟩
  rcases Bool.eq_false_or_eq_true (s.toList == [99, 111, 117, 110, 116]) with q18 | q18
  · have H := Lib.hid (ybf s _ (by decide) q18)
    go_enter Tryz.func94, Tryz.ntmps94
    go_wp2
    go_ret
    exact ⟨yas H.out.symm, rfl⟩
  rcases Bool.eq_false_or_eq_true (s.toList == [102, 105, 114, 115, 116]) with q19 | q19
  · have H := Lib.hid (ybf s _ (by decide) q19)
    go_enter Tryz.func94, Tryz.ntmps94
    go_wp2
    go_ret
    exact ⟨yas H.out.symm, rfl⟩
  rcases Bool.eq_false_or_eq_true (s.toList == [109, 105, 110]) with q20 | q20
  · have H := Lib.hid (ybf s _ (by decide) q20)
    go_enter Tryz.func94, Tryz.ntmps94
    go_wp2
    go_ret
    exact ⟨yas H.out.symm, rfl⟩
  rcases Bool.eq_false_or_eq_true (s.toList == [109, 97, 120]) with q21 | q21
  · have H := Lib.hid (ybf s _ (by decide) q21)
    go_enter Tryz.func94, Tryz.ntmps94
    go_wp2
    go_ret
    exact ⟨yas H.out.symm, rfl⟩
  rcases Bool.eq_false_or_eq_true (s.toList == [115, 117, 109]) with q22 | q22
  · have H := Lib.hid (ybf s _ (by decide) q22)
    go_enter Tryz.func94, Tryz.ntmps94
    go_wp2
    go_ret
    exact ⟨yas H.out.symm, rfl⟩
  rcases Bool.eq_false_or_eq_true (s.toList == [109, 101, 120]) with q23 | q23
  · have H := Lib.hid (ybf s _ (by decide) q23)
    go_enter Tryz.func94, Tryz.ntmps94
    go_wp2
    go_ret
    exact ⟨yas H.out.symm, rfl⟩
  rcases Bool.eq_false_or_eq_true (s.toList == [115, 101, 99, 111, 110, 100]) with q24 | q24
  · have H := Lib.hid (ybf s _ (by decide) q24)
    go_enter Tryz.func94, Tryz.ntmps94
    go_wp2
    go_ret
    exact ⟨yas H.out.symm, rfl⟩
  rcases Bool.eq_false_or_eq_true (s.toList == [104, 101, 97, 100]) with q25 | q25
  · have H := Lib.hid (ybf s _ (by decide) q25)
    go_enter Tryz.func94, Tryz.ntmps94
    go_wp2
    go_ret
    exact ⟨yas H.out.symm, rfl⟩
  have H := Lib.hid (resB_no s q0 q1 q2 q3 q4 q5 q6 q7 q8 q9 q10 q11 q12 q13 q14 q15 q16 q17 q18 q19 q20 q21 q22 q23 q24 q25)
  go_enter Tryz.func94, Tryz.ntmps94
  go_wp2
  go_ret
  exact ⟨yas H.out.symm, rfl⟩

theorem name_any (s : ByteArray) (w : World) (hs : s.size ≤ 9223372036854775807) :
    Calls Tryz.prog 39 #[.string s] w fun e w' => e = .returned (.bool (nameB s)) ∧ w = w' := by
  by_cases h0 : s.size = 0
  · have H := Lib.hid (nameB_empty s h0)
    have h0' : s.size < 1 := by omega
    clear h0
    go_enter Tryz.func39, Tryz.ntmps39
    go_wp2
    go_ret
    exact ⟨yas H.out.symm, rfl⟩
  have h0' : 0 < s.size := by omega
  clear h0
  by_cases h24 : 24 < s.size
  · have H := Lib.hid (nameB_long s h24)
    go_enter Tryz.func39, Tryz.ntmps39
    go_wp2
    go_ret
    exact ⟨yas H.out.symm, rfl⟩
  cases hl : ycm s[0]
  · have H := Lib.hid (nameB_letter s h0' hl)
    go_enter Tryz.func39, Tryz.ntmps39
    go_wp2_with (go_at_call 74; refine (letter_any _ _).mono ?_; rintro e w' ⟨rfl, rfl⟩)
    go_ret
    exact ⟨yas H.out.symm, rfl⟩
  go_enter Tryz.func39, Tryz.ntmps39
  go_wp2_with (go_at_call 74; refine (letter_any _ _).mono ?_; rintro e w' ⟨rfl, rfl⟩)
  go_loop [3, 20] (fun _ i => ∃ k : Nat, k ≤ s.size ∧ i = .int .i64 k ∧ Hid (((yal s 0).take k).all ydx = true)) (fun _ i => s.size - (intOf i).toNat)
  case atStart => exact ⟨0, by omega, rfl, rfl⟩
  case round =>
    obtain ⟨k, hk, rfl, ha⟩ := hrel
    by_cases hlt : k < s.size
    · cases hw : ydx s[k]
      · have H := Lib.hid (nameB_word s k hlt hw)
        go_wp2_with (go_at_call 75; refine (inWord_any _ _).mono ?_; rintro e w' ⟨rfl, rfl⟩)
        go_ret
        exact ⟨yas H.out.symm, rfl⟩
      · have H := Lib.hid (all_snoc s k hlt ha.out hw)
        go_wp2_with (go_at_call 75; refine (inWord_any _ _).mono ?_; rintro e w' ⟨rfl, rfl⟩)
        exact ⟨⟨k + 1, by omega, by go_num, H⟩, by simp [intOf]; omega⟩
    · obtain rfl : k = s.size := by omega
      have H := Lib.hid (nameB_rest s h0' (by omega) hl ha.out)
      go_wp2_with (go_at_call 76; refine (reserved_any _ _).mono ?_; rintro e w' ⟨rfl, rfl⟩)
      go_ret
      exact ⟨yas H.out.symm, rfl⟩

set_option maxHeartbeats 1000000 in
theorem rname_any (s : ByteArray) (w : World) (hs : s.size ≤ 9223372036854775807) :
    Calls Tryz.prog 53 #[.string s] w fun e w' => e = .returned (.bool (nameB s)) ∧ w = w' := by
  by_cases h0 : s.size = 0
  · have H := Lib.hid (nameB_empty s h0)
    have h0' : s.size < 1 := by omega
    clear h0
    go_enter Tryz.func53, Tryz.ntmps53
    go_wp2
    go_ret
    exact ⟨yas H.out.symm, rfl⟩
  have h0' : 0 < s.size := by omega
  clear h0
  by_cases h24 : 24 < s.size
  · have H := Lib.hid (nameB_long s h24)
    go_enter Tryz.func53, Tryz.ntmps53
    go_wp2
    go_ret
    exact ⟨yas H.out.symm, rfl⟩
  cases hl : ycm s[0]
  · have H := Lib.hid (nameB_letter s h0' hl)
    go_enter Tryz.func53, Tryz.ntmps53
    go_wp2_with (go_at_call 92; refine (rletter_any _ _).mono ?_; rintro e w' ⟨rfl, rfl⟩)
    go_ret
    exact ⟨yas H.out.symm, rfl⟩
  go_enter Tryz.func53, Tryz.ntmps53
  go_wp2_with (go_at_call 92; refine (rletter_any _ _).mono ?_; rintro e w' ⟨rfl, rfl⟩)
  go_loop [3] (fun i => ∃ k : Nat, k ≤ s.size ∧ i = .int .i64 k ∧ Hid (((yal s 0).take k).all ydx = true)) (fun i => s.size - (intOf i).toNat)
  case atStart => exact ⟨1, by omega, rfl, by rw [ybq s 0 h0']; show (List.take 1 _).all ydx = true; simp [ydx, hl]⟩
  case round =>
    obtain ⟨k, hk, rfl, ha⟩ := hrel
    by_cases hlt : k < s.size
    · cases hw : ydx s[k]
      · have H := Lib.hid (nameB_word s k hlt hw)
        go_wp2_with (go_at_call 93; refine (rinner_any _ _).mono ?_; rintro e w' ⟨rfl, rfl⟩)
        go_ret
        exact ⟨yas H.out.symm, rfl⟩
      · have H := Lib.hid (all_snoc s k hlt ha.out hw)
        go_wp2_with (go_at_call 93; refine (rinner_any _ _).mono ?_; rintro e w' ⟨rfl, rfl⟩)
        exact ⟨⟨k + 1, by omega, by go_num, H⟩, by simp [intOf]; omega⟩
    · obtain rfl : k = s.size := by omega
      have H := Lib.hid (nameB_rest s h0' (by omega) hl ha.out)
      go_wp2_with (go_at_call 94; refine (rreserved_any _ _).mono ?_; rintro e w' ⟨rfl, rfl⟩)
      go_ret
      exact ⟨yas H.out.symm, rfl⟩

end Go.Proofs.YtcpgpiabeimefaaGreatDoor
set_option linter.unusedVariables false
set_option maxRecDepth 100000
set_option maxHeartbeats 4000000
namespace Go.Proofs.YtcpgpiabeimefaaGreatDoor
open Go.RowKit
def yfo (t : Tok) : List AV := [i64 t.kind, i64 t.from_, i64 t.to, i64 t.num]
def ybj (l : List Bs) : AV := .sl 1 (l.map fun x => [yey (ba x)])
def rdO (s : ByteArray) (ts : List Tok) (names : List Bs) (us : List Value) : LObj := .cells (yey s :: .sl 4 (ts.map yfo) :: ybj names :: us.map .v)
def rdH (s : ByteArray) (ts : List Tok) (names : List Bs) (us : List Value) : List (Nat × Option LObj) := [(1001, some (rdO s ts names us))]
theorem rd_cl {s : ByteArray} {ts ts' : List Tok} {names : List Bs} {us : List Value} {N : Nat} (hN : Nat.ble N 1001 = true) : ∀ id o, yaq (rdH s ts' names us) id = some o → isC o = true → N ≤ id ∧ ∃ o', yaq (rdH s ts names us) id = some o' ∧ isC o' = true := by
  intro id o ho hc
  simp only [rdH, yaq] at ho ⊢
  cases h1 : Nat.beq id 1001 with
  | true => have := Nat.eq_of_beq_eq_true h1; exact ⟨by simp only [Nat.ble_eq] at hN; omega, _, rfl, rfl⟩
  | false => simp only [h1] at ho; cases ho
theorem nbeq_self (b : Nat) : Nat.beq b b = true := Nat.beq_refl b
theorem renL_v (σ : Nat → Nat) (us : List Value) : renA.renL σ (us.map .v) = us.map .v := renA_pure.rows (by induction us with | nil => rfl | cons u us ih => simp [ybv.pureL, ybv, ih])
theorem renO_rd (σ : Nat → Nat) (s : ByteArray) (ts : List Tok) (names : List Bs) (us : List Value) : renO σ (rdO s ts names us) = rdO s ts names us := by
  simp only [rdO, renO, renA.renL, renL_v]; rfl
theorem onlyL_v (ids : List Nat) (us : List Value) : onlyA.onlyL ids (us.map .v) = true := by induction us with | nil => rfl | cons u us ih => simp [onlyA.onlyL, onlyA, ih]
theorem mentL_v (d : Nat) (us : List Value) : ment.mentL d (us.map .v) = false := by induction us with | nil => rfl | cons u us ih => simp [ment.mentL, ment, ih]
theorem fresh_rd {d : Nat} {s : ByteArray} {ts : List Tok} {names : List Bs} {us : List Value} {h : List (Nat × Option LObj)} (hd : Nat.beq d 1001 = false) (hf : yev d h = true) : yev d ((1001, some (rdO s ts names us)) :: h) = true := by
  simp [yev, hd, hf, mentO, rdO, ment.mentL, mentL_v, ment, yey, ybj]
theorem fresh_c {d id : Nat} {xs : List AV} {h : List (Nat × Option LObj)} (h1 : Nat.beq d id = false) (h2 : ment.mentL d xs = false) (hf : yev d h = true) : yev d ((id, some (.cells xs)) :: h) = true := by
  simp [yev, h1, hf, mentO, h2]
def keepOne (b : Nat) (y : AV) : Bool := match ment b y with
  | false => true
  | true => match y with
    | .lp _ _ => true
    | _ => false
def keepAll (b : Nat) : List (Nat × AV) → Bool
  | [] => true
  | (_, y) :: t => match keepOne b y with
    | true => keepAll b t
    | false => false
theorem pureA_only {ids : List Nat} : ∀ {x : AV}, ybv x = true → onlyA ids x = true
  | .v _, _ => rfl
  | .any, _ => rfl
  | .one, _ => rfl
  | .sl _ _, _ => rfl
  | .dp _ _, _ => rfl
  | .mv _, _ => rfl
  | .agg cs, h => rows (cs := cs) h
  | .tup cs, h => rows (cs := cs) h
  | .fn _ cs, h => rows (cs := cs) h
  where rows : ∀ {cs : List AV}, ybv.pureL cs = true → onlyA.onlyL ids cs = true
  | [], _ => rfl
  | c :: cs, h => by
    simp only [ybv.pureL, Bool.and_eq_true] at h
    simp only [onlyA.onlyL, pureA_only h.1, rows h.2, Bool.and_self]
section
variable {s : ByteArray} {ts ts' : List Tok} {names : List Bs} {us : List Value}
theorem keep_rd (b : Nat) : ∀ {t : List (Nat × AV)}, keepAll b t = true → forgTM [(1001, b)] (rdH s ts names us) t = t
  | [], _ => rfl
  | (x, y) :: t, h => by
    simp only [keepAll] at h
    have hk : keepB [(1001, b)] (rdH s ts names us) y = true := by
      simp only [keepOne] at h
      simp only [keepB, mentAny, ydu]
      cases hm : ment b y with
      | false => rfl
      | true =>
        simp only [hm] at h
        cases y with
        | lp j off =>
          have e : j = b := Nat.eq_of_beq_eq_true hm
          subst e
          simp only [fixedN]
          rw [nbeq_self]
          rfl
        | _ => cases h
    simp only [forgTM, hk]
    cases ho : keepOne b y with
    | true => rw [ho] at h; rw [keep_rd b h]
    | false => rw [ho] at h; cases h
variable {P : Program} {N : Nat} {ops : Array Oper} {lf : Oper → Bool} {Q : SS → Prop} {t : List (Nat × AV)} {h : List (Nat × Option LObj)} {rest : List Oper} {d : Nat} {ty : TypeId} {pos : String} {af : Array Edge} {gd : Option (Nat × Bool)}
theorem ycr (b : Nat) {g : Operand} {args : List Operand} {ats : Array TypeId} {f : FuncId} {args0 : List AV} {r : AV} {h' : List (Nat × Option LObj)} (hc : ConM P f (.lp 1001 0 :: args0) (yaq (rdH s ts names us)) r (yaq (rdH s ts' names us))) (hp : ybv.pureL args0 = true) (hpr : ybv r = true) (hg : evF (ybk t) g = some (.fn f [])) (hx : evL (evF (ybk t)) args = some (.lp b 0 :: args0))
    (hb : yaq h b = some (rdO s ts names us)) (hk : keepAll b t = true) (hh : forgHs [b] (dropK [b] h) = some h') (hl : lf ⟨some d, .call { callee := .value g, args := args.toArray, argTypes := ats }, ty, pos, af, gd⟩ = true) (hw : ybh ops (ybk t) ⟨some d, .call { callee := .value g, args := args.toArray, argTypes := ats }, ty, pos, af, gd⟩ = some true) (hd : Nat.blt d N = true)
    (k : Lex P N ops lf Q rest (S ((d, r) :: t) ((b, some (rdO s ts' names us)) :: h'))) : Lex P N ops lf Q (⟨some d, .call { callee := .value g, args := args.toArray, argTypes := ats }, ty, pos, af, gd⟩ :: rest) (S t h) := by
  refine L_callM [(1001, b)] hc hg hx ?_ rfl rfl rfl rfl (yai ?_ yan) (pureA_only hpr) ?_ hh hl hw hd ?_
  · simp only [List.append_nil, List.map_cons, renA, yff]
    congr 1
    rw [← ycw, renA_pure.rows hp]
  · rw [renO_rd]; exact hb
  · simp only [onlyHs, rdH, onlyO, rdO, onlyA.onlyL, onlyL_v]; rfl
  · rw [keep_rd b hk, renA_pure hpr]
    simp only [backH, rdH, yaq, renO_rd]
    exact k
theorem D_rd (b : Nat) {dst : Option Tmp} {g : Operand} {args : List Operand} {ats : Array TypeId} {f : FuncId} {args0 : List AV} {ch : List PanicEntry} {D : List PanicEntry → SS → Prop} (hc : ConP P f (.lp 1001 0 :: args0) (yaq (rdH s ts names us)) ch) (hp : ybv.pureL args0 = true) (hg : evF (ybk t) g = some (.fn f [])) (hx : evL (evF (ybk t)) args = some (.lp b 0 :: args0))
    (hb : yaq h b = some (rdO s ts names us)) (hD : D ch ⟨fun _ => none, fun _ => none⟩) : DieAt P N ⟨dst, .call { callee := .value g, args := args.toArray, argTypes := ats }, ty, pos, af, gd⟩ (S t h) D := by
  refine dieC [(1001, b)] hc hg hx ?_ rfl rfl (yai ?_ yan) hD
  · simp only [List.append_nil, List.map_cons, renA, yff]
    congr 1
    rw [← ycw, renA_pure.rows hp]
  · rw [renO_rd]; exact hb
end
def ydl (s : ByteArray) (ts : List Tok) : Prop := ∀ t ∈ ts, t.from_ < t.to ∧ t.to ≤ s.size ∧ (nmW (pwT s t).w = true → t.kind = 1)
theorem extract_word {s : ByteArray} {a b : Nat} (h : a ≤ b) (hb : b ≤ s.size) : s.extract a b = ba ((yal s a).take (b - a)) := by
  apply ByteArray.ext
  simp only [ba, yal, ByteArray.data_extract]
  apply Array.ext'
  simp [Array.toList_extract, List.extract]
theorem headW_of {s : ByteArray} {t : Tok} {r : List Tok} (h : ydl s (t :: r)) : s.extract t.from_ t.to = ba (ybg ((t :: r).map (pwT s))) := by
  obtain ⟨h1, h2, _⟩ := h t (by simp)
  exact extract_word (by omega) h2
def headK (ts : List Tok) : Nat := match ts with
  | [] => 0
  | t :: _ => t.kind
def yez (s : ByteArray) (ts : List Tok) : Nat := match ts with
  | [] => s.size
  | t :: _ => t.from_
def failV (p e : Int) : Value := .iface 72 (.agg #[.int .i64 p, .int .i64 e])
def failP (p e : Int) : List PanicEntry := [{ v := failV p e, recovered := false }]
section
variable {s : ByteArray} {ts : List Tok} {names : List Bs} {us : List Value}
theorem ycx (h : ydl s ts) : ConM Tryz.prog 84 [.lp 1001 0] (yaq (rdH s ts names us)) (yey (ba (ybg (ts.map (pwT s))))) (yaq (rdH s ts names us)) := by
  refine yaz tok Tryz.func84 rfl rfl Tryz.ntmps84 Tryz.results84 rfl (rd_cl rfl) ?_
  show A _ _ _ _ (S _ _)
  cases ts with
  | nil =>
    (repeat (first | refine zI ?_ | refine zL ?_ | refine zC ?_ | refine yag ?_ | refine yaf ?_ | refine zR ?_ | refine zD ?_ | refine zK ?_ | refine zB ?_ | refine zA ?_ | refine zS ?_ | refine zU ?_ | refine zV ?_ | refine zF ?_ | with_reducible refine yab ?_ | with_reducible refine yad ?_ | refine yaa ?_ | refine yac ?_ | refine yae ?_ | refine zT ?_ | refine zE ?_ | refine zX ?_ | refine yao rfl rfl rfl rfl ?_))
    refine yar ?_
    exact ⟨_, rfl, yav _, yap (yai rfl yan)⟩
  | cons t r =>
    obtain ⟨h1, h2, _⟩ := h t (by simp)
    (repeat (first | refine zI ?_ | refine zL ?_ | refine zC ?_ | refine yag ?_ | refine yaf ?_ | refine zR ?_ | refine zD ?_ | refine zK ?_ | refine zB ?_ | refine zA ?_ | refine zS ?_ | refine zU ?_ | refine zV ?_ | refine zF ?_ | with_reducible refine yab ?_ | with_reducible refine yad ?_ | refine yaa ?_ | refine yac ?_ | refine yae ?_ | refine zT ?_ | refine zE ?_ | refine zX ?_ | refine yao rfl rfl rfl rfl ?_ | refine ybm tok rfl rfl rfl (by omega) rfl rfl rfl ?_ | refine L_sslice tok rfl rfl rfl rfl (by show (0 : Int) ≤ (t.from_ : Int); omega) (by show (t.from_ : Int) ≤ (t.to : Int); omega) (by show (t.to : Int) ≤ (s.size : Int); omega) rfl rfl ?_))
    refine yar ?_
    refine ⟨_, rfl, ?_, yap (yai rfl yan)⟩
    rw [← headW_of h]
    exact yav _
theorem yei (h : ydl s ts) : ConM Tryz.prog 116 [.lp 1001 0] (yaq (rdH s ts names us)) (i64 (headK ts)) (yaq (rdH s ts names us)) := by
  refine yaz tok Tryz.func116 rfl rfl Tryz.ntmps116 Tryz.results116 rfl (rd_cl rfl) ?_
  show A _ _ _ _ (S _ _)
  cases ts with
  | nil =>
    (repeat (first | refine zI ?_ | refine zL ?_ | refine zC ?_ | refine yag ?_ | refine yaf ?_ | refine zR ?_ | refine zD ?_ | refine zK ?_ | refine zB ?_ | refine zA ?_ | refine zS ?_ | refine zU ?_ | refine zV ?_ | refine zF ?_ | with_reducible refine yab ?_ | with_reducible refine yad ?_ | refine yaa ?_ | refine yac ?_ | refine yae ?_ | refine zT ?_ | refine zE ?_ | refine zX ?_ | refine yao rfl rfl rfl rfl ?_))
    refine yar ?_
    exact ⟨_, rfl, yav _, yap (yai rfl yan)⟩
  | cons t r =>
    (repeat (first | refine zI ?_ | refine zL ?_ | refine zC ?_ | refine yag ?_ | refine yaf ?_ | refine zR ?_ | refine zD ?_ | refine zK ?_ | refine zB ?_ | refine zA ?_ | refine zS ?_ | refine zU ?_ | refine zV ?_ | refine zF ?_ | with_reducible refine yab ?_ | with_reducible refine yad ?_ | refine yaa ?_ | refine yac ?_ | refine yae ?_ | refine zT ?_ | refine zE ?_ | refine zX ?_ | refine yao rfl rfl rfl rfl ?_ | refine ybm tok rfl rfl rfl (by omega) rfl rfl rfl ?_))
    refine yar ?_
    exact ⟨_, rfl, yav _, yap (yai rfl yan)⟩
theorem done_con : ConM Tryz.prog 24 [.lp 1001 0] (yaq (rdH s ts names us)) (boolA ts.isEmpty) (yaq (rdH s ts names us)) := by
  refine yaz tok Tryz.func24 rfl rfl Tryz.ntmps24 Tryz.results24 rfl (rd_cl rfl) ?_
  show A _ _ _ _ (S _ _)
  cases ts with
  | nil =>
    (repeat (first | refine zI ?_ | refine zL ?_ | refine zC ?_ | refine yag ?_ | refine yaf ?_ | refine zR ?_ | refine zD ?_ | refine zK ?_ | refine zB ?_ | refine zA ?_ | refine zS ?_ | refine zU ?_ | refine zV ?_ | refine zF ?_ | with_reducible refine yab ?_ | with_reducible refine yad ?_ | refine yaa ?_ | refine yac ?_ | refine yae ?_ | refine zT ?_ | refine zE ?_ | refine zX ?_ | refine yao rfl rfl rfl rfl ?_))
    refine yar ?_
    exact ⟨_, rfl, yav _, yap (yai rfl yan)⟩
  | cons t r =>
    (repeat (first | refine zI ?_ | refine zL ?_ | refine zC ?_ | refine yag ?_ | refine yaf ?_ | refine zR ?_ | refine zD ?_ | refine zK ?_ | refine zB ?_ | refine zA ?_ | refine zS ?_ | refine zU ?_ | refine zV ?_ | refine zF ?_ | with_reducible refine yab ?_ | with_reducible refine yad ?_ | refine yaa ?_ | refine yac ?_ | refine yae ?_ | refine zT ?_ | refine zE ?_ | refine zX ?_ | refine yao rfl rfl rfl rfl ?_))
    refine yar ?_
    exact ⟨_, rfl, yav _, yap (yai rfl yan)⟩
theorem take_con (t : Tok) (r : List Tok) : ConM Tryz.prog 85 [.lp 1001 0] (yaq (rdH s (t :: r) names us)) (.agg (yfo t)) (yaq (rdH s r names us)) := by
  refine yaz tok Tryz.func85 rfl rfl Tryz.ntmps85 Tryz.results85 rfl (rd_cl rfl) ?_
  show A _ _ _ _ (S _ _)
  (repeat (first | refine zI ?_ | refine zL ?_ | refine zC ?_ | refine yag ?_ | refine yaf ?_ | refine zR ?_ | refine zD ?_ | refine zK ?_ | refine zB ?_ | refine zA ?_ | refine zS ?_ | refine zU ?_ | refine zV ?_ | refine zF ?_ | with_reducible refine yab ?_ | with_reducible refine yad ?_ | refine yaa ?_ | refine yac ?_ | refine yae ?_ | refine zT ?_ | refine zE ?_ | refine zX ?_ | refine zA (h2 := fresh_rd rfl rfl) ?_ | refine zA (h2 := fresh_c rfl rfl (fresh_rd rfl rfl)) ?_ | refine yao rfl rfl rfl rfl ?_ | refine ybm tok rfl rfl rfl (by omega) rfl rfl rfl ?_ | refine L_slslice tok rfl rfl rfl rfl (by show (0 : Int) ≤ 1; omega) (by show (1 : Int) ≤ ((List.map yfo (t :: r)).length : Int); simp; omega) (Int.le_refl _) rfl rfl ?_))
  refine yar ?_
  refine ⟨_, rfl, yav _, yap (yai ?_ yan)⟩
  have e : List.drop ((some (1 : Int)).getD 0).toNat (List.take ((none : Option Int).getD ((List.map yfo (t :: r)).length : Int)).toNat (List.map yfo (t :: r))) = r.map yfo := by simp [List.take_of_length_le]
  rw [e]
  rfl
theorem fail_con (e : Int) : ConP Tryz.prog 25 [.lp 1001 0, i64 e] (yaq (rdH s ts names us)) (failP (yez s ts) e) := by
  refine conP_of Tryz.func25 rfl rfl Tryz.ntmps25 rfl ?_
  show A _ _ _ _ (S _ _)
  cases ts with
  | nil =>
    (repeat (first | with_reducible refine yad ?_ | with_reducible refine yab ?_ | refine yac ?_ | refine yaf ?_ | refine yaa ?_)); refine yah (lf := lfT) rfl ?_
    (repeat (first | refine zI ?_ | refine zL ?_ | refine zC ?_ | refine zK ?_ | refine zB ?_ | refine zA ?_ | refine zS ?_ | refine zU ?_ | refine zV ?_ | refine zF ?_ | refine zX ?_ | refine yag ?_ | refine yao rfl rfl rfl rfl ?_))
    (repeat (first | with_reducible refine yad ?_ | with_reducible refine yab ?_ | refine yac ?_ | refine yaf ?_ | refine yaa ?_)); refine yah (lf := lfT) rfl ?_
    (repeat (first | refine zI ?_ | refine zL ?_ | refine zC ?_ | refine zK ?_ | refine zB ?_ | refine zA ?_ | refine zS ?_ | refine zU ?_ | refine zV ?_ | refine zF ?_ | refine zX ?_ | refine yag ?_ | refine yao rfl rfl rfl rfl ?_))
    (repeat (first | with_reducible refine yad ?_ | with_reducible refine yab ?_ | refine yac ?_ | refine yaf ?_ | refine yaa ?_))
    refine yam rfl (fun h => ?_) (fun h => ?_)
    · simp at h
    (repeat (first | with_reducible refine yad ?_ | with_reducible refine yab ?_ | refine yac ?_ | refine yaf ?_ | refine yaa ?_)); refine ybd (lf := lfT) 4 rfl rfl rfl ?_
    (repeat (first | refine zI ?_ | refine zL ?_ | refine zC ?_ | refine zK ?_ | refine zB ?_ | refine zA ?_ | refine zS ?_ | refine zU ?_ | refine zV ?_ | refine zF ?_ | refine zX ?_ | refine yag ?_ | refine yaw (yield_iface Tryz.underlying72 rfl rfl) rfl rfl ?_))
    exact ⟨rfl, dieP rfl rfl⟩
  | cons t r =>
    (repeat (first | with_reducible refine yad ?_ | with_reducible refine yab ?_ | refine yac ?_ | refine yaf ?_ | refine yaa ?_)); refine yah (lf := lfT) rfl ?_
    (repeat (first | refine zI ?_ | refine zL ?_ | refine zC ?_ | refine zK ?_ | refine zB ?_ | refine zA ?_ | refine zS ?_ | refine zU ?_ | refine zV ?_ | refine zF ?_ | refine zX ?_ | refine yag ?_ | refine yao rfl rfl rfl rfl ?_))
    (repeat (first | with_reducible refine yad ?_ | with_reducible refine yab ?_ | refine yac ?_ | refine yaf ?_ | refine yaa ?_)); refine yah (lf := lfT) rfl ?_
    (repeat (first | refine zI ?_ | refine zL ?_ | refine zC ?_ | refine zK ?_ | refine zB ?_ | refine zA ?_ | refine zS ?_ | refine zU ?_ | refine zV ?_ | refine zF ?_ | refine zX ?_ | refine yag ?_ | refine yao rfl rfl rfl rfl ?_))
    (repeat (first | with_reducible refine yad ?_ | with_reducible refine yab ?_ | refine yac ?_ | refine yaf ?_ | refine yaa ?_))
    refine yam rfl (fun h => ?_) (fun h => ?_)
    · refine yah (lf := lfT) rfl ?_
      (repeat (first | refine zI ?_ | refine zL ?_ | refine zC ?_ | refine zK ?_ | refine zB ?_ | refine zA ?_ | refine zS ?_ | refine zU ?_ | refine zV ?_ | refine zF ?_ | refine zX ?_ | refine yag ?_ | refine yao rfl rfl rfl rfl ?_ | refine ybm tok rfl rfl rfl (by omega) rfl rfl rfl ?_))
      (repeat (first | with_reducible refine yad ?_ | with_reducible refine yab ?_ | refine yac ?_ | refine yaf ?_ | refine yaa ?_)); refine ybd (lf := lfT) 4 rfl rfl rfl ?_
      (repeat (first | refine zI ?_ | refine zL ?_ | refine zC ?_ | refine zK ?_ | refine zB ?_ | refine zA ?_ | refine zS ?_ | refine zU ?_ | refine zV ?_ | refine zF ?_ | refine zX ?_ | refine yag ?_ | refine yaw (yield_iface Tryz.underlying72 rfl rfl) rfl rfl ?_))
      exact ⟨rfl, dieP rfl rfl⟩
    · simp at h
theorem ycs (h : ydl s ts) {w : Bs} (hw : ybg (ts.map (pwT s)) = w) (h0 : w ≠ []) : ConM Tryz.prog 46 [.lp 1001 0, yey (ba w)] (yaq (rdH s ts names us)) (boolA true) (yaq (rdH s ts.tail names us)) := by
  refine yaz tok Tryz.func46 rfl rfl Tryz.ntmps46 Tryz.results46 rfl (rd_cl rfl) ?_
  show A _ _ _ _ (S _ _)
  cases ts with
  | nil => exact absurd hw.symm h0
  | cons t r =>
    (repeat (first | refine zI ?_ | refine zL ?_ | refine zC ?_ | refine yag ?_ | refine yaf ?_ | refine zR ?_ | refine zD ?_ | refine zK ?_ | refine zB ?_ | refine zA ?_ | refine zS ?_ | refine zU ?_ | refine zV ?_ | refine zF ?_ | with_reducible refine yab ?_ | with_reducible refine yad ?_ | refine yaa ?_ | refine yac ?_ | refine yae ?_ | refine zT ?_ | refine zE ?_ | refine zX ?_ | refine ycr 1001 (ycx h) rfl rfl rfl rfl rfl rfl rfl rfl rfl rfl ?_))
    refine yam rfl (fun h2 => ?_) (fun h2 => ?_)
    · rw [hw] at h2; simp at h2
    (repeat (first | refine zI ?_ | refine zL ?_ | refine zC ?_ | refine yag ?_ | refine yaf ?_ | refine zR ?_ | refine zD ?_ | refine zK ?_ | refine zB ?_ | refine zA ?_ | refine zS ?_ | refine zU ?_ | refine zV ?_ | refine zF ?_ | with_reducible refine yab ?_ | with_reducible refine yad ?_ | refine yaa ?_ | refine yac ?_ | refine yae ?_ | refine zT ?_ | refine zE ?_ | refine zX ?_ | refine ycr 1001 (take_con t r) rfl rfl rfl rfl rfl rfl rfl rfl rfl rfl ?_))
    refine yar ?_
    exact ⟨_, rfl, yav _, yap (yai rfl yan)⟩
theorem ycb (h : ydl s ts) {w : Bs} (hw : ybg (ts.map (pwT s)) ≠ w) : ConM Tryz.prog 46 [.lp 1001 0, yey (ba w)] (yaq (rdH s ts names us)) (boolA false) (yaq (rdH s ts names us)) := by
  refine yaz tok Tryz.func46 rfl rfl Tryz.ntmps46 Tryz.results46 rfl (rd_cl rfl) ?_
  show A _ _ _ _ (S _ _)
  (repeat (first | refine zI ?_ | refine zL ?_ | refine zC ?_ | refine yag ?_ | refine yaf ?_ | refine zR ?_ | refine zD ?_ | refine zK ?_ | refine zB ?_ | refine zA ?_ | refine zS ?_ | refine zU ?_ | refine zV ?_ | refine zF ?_ | with_reducible refine yab ?_ | with_reducible refine yad ?_ | refine yaa ?_ | refine yac ?_ | refine yae ?_ | refine zT ?_ | refine zE ?_ | refine zX ?_ | refine ycr 1001 (ycx h) rfl rfl rfl rfl rfl rfl rfl rfl rfl rfl ?_))
  refine yam rfl (fun h2 => ?_) (fun h2 => ?_)
  · (repeat (first | refine zI ?_ | refine zL ?_ | refine zC ?_ | refine yag ?_ | refine yaf ?_ | refine zR ?_ | refine zD ?_ | refine zK ?_ | refine zB ?_ | refine zA ?_ | refine zS ?_ | refine zU ?_ | refine zV ?_ | refine zF ?_ | with_reducible refine yab ?_ | with_reducible refine yad ?_ | refine yaa ?_ | refine yac ?_ | refine yae ?_ | refine zT ?_ | refine zE ?_ | refine zX ?_))
    refine yar ?_
    exact ⟨_, rfl, yav _, yap (yai rfl yan)⟩
  · simp [yem, hw] at h2
theorem expect_yes (h : ydl s ts) {w : Bs} (hw : ybg (ts.map (pwT s)) = w) (h0 : w ≠ []) : ConM Tryz.prog 47 [.lp 1001 0, yey (ba w)] (yaq (rdH s ts names us)) (.tup []) (yaq (rdH s ts.tail names us)) := by
  refine yaz tok Tryz.func47 rfl rfl Tryz.ntmps47 Tryz.results47 rfl (rd_cl rfl) ?_
  show A _ _ _ _ (S _ _)
  (repeat (first | refine zI ?_ | refine zL ?_ | refine zC ?_ | refine yag ?_ | refine yaf ?_ | refine zR ?_ | refine zD ?_ | refine zK ?_ | refine zB ?_ | refine zA ?_ | refine zS ?_ | refine zU ?_ | refine zV ?_ | refine zF ?_ | with_reducible refine yab ?_ | with_reducible refine yad ?_ | refine yaa ?_ | refine yac ?_ | refine yae ?_ | refine zT ?_ | refine zE ?_ | refine zX ?_ | refine ycr 1001 (ycs h hw h0) rfl rfl rfl rfl rfl rfl rfl rfl rfl rfl ?_))
  exact ⟨_, rfl, yav _, yap (yai rfl yan)⟩
theorem expect_no (h : ydl s ts) {w : Bs} (hw : ybg (ts.map (pwT s)) ≠ w) : ConP Tryz.prog 47 [.lp 1001 0, yey (ba w)] (yaq (rdH s ts names us)) (failP (yez s ts) 4) := by
  refine conP_of Tryz.func47 rfl rfl Tryz.ntmps47 rfl ?_
  show A _ _ _ _ (S _ _)
  (repeat (first | with_reducible refine yad ?_ | with_reducible refine yab ?_ | refine yac ?_ | refine yaf ?_ | refine yaa ?_)); refine yah (lf := lfT) rfl ?_
  (repeat (first | refine zI ?_ | refine zL ?_ | refine zC ?_ | refine zK ?_ | refine zB ?_ | refine zA ?_ | refine zS ?_ | refine zU ?_ | refine zV ?_ | refine zF ?_ | refine zX ?_ | refine yag ?_ | refine ycr 1001 (ycb h hw) rfl rfl rfl rfl rfl rfl rfl rfl rfl rfl ?_))
  (repeat (first | with_reducible refine yad ?_ | with_reducible refine yab ?_ | refine yac ?_ | refine yaf ?_ | refine yaa ?_))
  refine yam rfl (fun h2 => ?_) (fun h2 => ?_)
  · (repeat (first | with_reducible refine yad ?_ | with_reducible refine yab ?_ | refine yac ?_ | refine yaf ?_ | refine yaa ?_)); refine ybd (lf := lfT) 1 rfl rfl rfl ?_
    (repeat (first | refine zI ?_ | refine zL ?_ | refine zC ?_ | refine zK ?_ | refine zB ?_ | refine zA ?_ | refine zS ?_ | refine zU ?_ | refine zV ?_ | refine zF ?_ | refine zX ?_ | refine yag ?_))
    exact ⟨rfl, D_rd 1001 (fail_con 4) rfl rfl rfl rfl rfl⟩
  · cases h2
end
end Go.Proofs.YtcpgpiabeimefaaGreatDoor
set_option linter.unusedVariables false
set_option maxRecDepth 100000
set_option maxHeartbeats 4000000
namespace Go.Proofs.YtcpgpiabeimefaaGreatDoor
open Go.RowKit
theorem getN' {α : Type} {l : List α} {k : Nat} (h : k < l.length) : ∃ x, l[k]? = some x := ⟨_, List.getElem?_eq_getElem h⟩
theorem drop_at' {α : Type} {l : List α} {k : Nat} {x : α} (h : l[k]? = some x) : l.drop k = x :: l.drop (k + 1) := by
  rw [List.drop_eq_getElem_cons (List.getElem?_eq_some_iff.1 h).1, (List.getElem?_eq_some_iff.1 h).2]
theorem idx_next {l : List Bs} {w x : Bs} {k : Nat} (h : idxW l w = (idxW (l.drop k) w).map (· + k)) (hx : l[k]? = some x) (hn : x ≠ w) : idxW l w = (idxW (l.drop (k + 1)) w).map (· + (k + 1)) := by
  rw [h, drop_at' hx, idxW, if_neg hn, Option.map_map]
  congr 1
  funext j
  simp only [Function.comp]
  omega
theorem idx_here {l : List Bs} {w x : Bs} {k : Nat} (h : idxW l w = (idxW (l.drop k) w).map (· + k)) (hx : l[k]? = some x) (hn : x = w) : idxW l w = some k := by
  rw [h, drop_at' hx, idxW, if_pos hn]
  simp
theorem idx_end {l : List Bs} {w : Bs} {k : Nat} (h : idxW l w = (idxW (l.drop k) w).map (· + k)) (hk : l.length ≤ k) : idxW l w = none := by
  rw [h, List.drop_eq_nil_of_le hk]; rfl
theorem idx_not {l : List Bs} {w : Bs} : idxW l w = none → w ∉ l := by
  induction l with
  | nil => intro _ h; cases h
  | cons x l ih =>
    intro h hm
    rw [idxW] at h
    split at h
    · cases h
    · rename_i hne
      rcases List.mem_cons.1 hm with rfl | hm
      · exact hne rfl
      · exact ih (by cases hq : idxW l w with | none => rfl | some i => rw [hq] at h; cases h) hm
theorem find_con (first : Int) (l : List Bs) (w : Bs) (h0 : 0 ≤ first ∧ first ≤ 1000) (hl : l.length ≤ 1000) : Con Tryz.prog 110 [yey (ba w), i64 first, ybj l] (i64 (findL first l w)) := by
  refine ybw Tryz.func110 rfl rfl Tryz.ntmps110 Tryz.results110 rfl rfl ?_
  (repeat (first | refine zI ?_ | refine zL ?_ | refine zC ?_ | refine yag ?_ | refine yaf ?_ | refine zR ?_ | refine zD ?_ | refine zK ?_ | refine zB ?_ | refine zA ?_ | refine zS ?_ | refine zU ?_ | refine zV ?_ | refine zF ?_ | with_reducible refine yab ?_ | with_reducible refine yad ?_ | refine yaa ?_ | refine yac ?_ | refine yae ?_ | refine zT ?_ | refine zE ?_ | refine zX ?_))
  refine yam rfl (fun h => ?_) (fun h => ?_)
  · have hw : w = [] := by
      simp only [yem] at h
      simpa using h
    (repeat (first | refine zI ?_ | refine zL ?_ | refine zC ?_ | refine yag ?_ | refine yaf ?_ | refine zR ?_ | refine zD ?_ | refine zK ?_ | refine zB ?_ | refine zA ?_ | refine zS ?_ | refine zU ?_ | refine zV ?_ | refine zF ?_ | with_reducible refine yab ?_ | with_reducible refine yad ?_ | refine yaa ?_ | refine yac ?_ | refine yae ?_ | refine zT ?_ | refine zE ?_ | refine zX ?_))
    refine yar ?_; refine ⟨_, rfl, ?_⟩
    exact frz_i64 (by rw [findL, if_pos hw])
  have hw : w ≠ [] := by rintro rfl; simp [yem] at h
  clear h
  (repeat (first | refine zI ?_ | refine zL ?_ | refine zC ?_ | refine yag ?_ | refine yaf ?_ | refine zR ?_ | refine zD ?_ | refine zK ?_ | refine zB ?_ | refine zA ?_ | refine zS ?_ | refine zU ?_ | refine zV ?_ | refine zF ?_ | with_reducible refine yab ?_ | with_reducible refine yad ?_ | refine yaa ?_ | refine yac ?_ | refine yae ?_ | refine zT ?_ | refine zE ?_ | refine zX ?_))
  refine A_inv (α := Nat) (fun k => [(13, i64 (k : Int)), (12, i64 (l.length : Int)), (11, ybj l), (1, i64 first), (0, yey (ba w))]) (fun k => []) (fun k => l.length - k) (fun k => k ≤ l.length ∧ idxW l w = (idxW (l.drop k) w).map (· + k)) 0 ⟨by omega, by simp⟩ (by (repeat (first | exact ycd | refine ybn rfl ?_))) (yan) ?_
  · rintro k ⟨hk, hinv⟩
    (repeat (first | refine zI ?_ | refine zL ?_ | refine zC ?_ | refine yag ?_ | refine yaf ?_ | refine zR ?_ | refine zD ?_ | refine zK ?_ | refine zB ?_ | refine zA ?_ | refine zS ?_ | refine zU ?_ | refine zV ?_ | refine zF ?_ | with_reducible refine yab ?_ | with_reducible refine yad ?_ | refine yaa ?_ | refine yac ?_ | refine yae ?_ | refine zT ?_ | refine zE ?_ | refine zX ?_))
    refine yam rfl (fun h2 => ?_) (fun h2 => ?_)
    · have h2 : k < l.length := by simpa using h2
      obtain ⟨x, hx⟩ := getN' h2
      (repeat (first | refine zI ?_ | refine zL ?_ | refine zC ?_ | refine yag ?_ | refine yaf ?_ | refine zR ?_ | refine zD ?_ | refine zK ?_ | refine zB ?_ | refine zA ?_ | refine zS ?_ | refine zU ?_ | refine zV ?_ | refine zF ?_ | with_reducible refine yab ?_ | with_reducible refine yad ?_ | refine yaa ?_ | refine yac ?_ | refine yae ?_ | refine zT ?_ | refine zE ?_ | refine zX ?_))
      refine yam rfl (fun h3 => ?_) (fun h3 => ?_)
      · have h3 : x = w := by simpa [yem] using h3
        (repeat (first | refine zI ?_ | refine zL ?_ | refine zC ?_ | refine yag ?_ | refine yaf ?_ | refine zR ?_ | refine zD ?_ | refine zK ?_ | refine zB ?_ | refine zA ?_ | refine zS ?_ | refine zU ?_ | refine zV ?_ | refine zF ?_ | with_reducible refine yab ?_ | with_reducible refine yad ?_ | refine yaa ?_ | refine yac ?_ | refine yae ?_ | refine zT ?_ | refine zE ?_ | refine zX ?_))
        refine yar ?_; refine ⟨_, rfl, ?_⟩
        exact frz_i64 (by rw [findL, if_neg hw, idx_here hinv hx h3])
      · have h3 : x ≠ w := by simpa [yem] using h3
        (repeat (first | refine zI ?_ | refine zL ?_ | refine zC ?_ | refine yag ?_ | refine yaf ?_ | refine zR ?_ | refine zD ?_ | refine zK ?_ | refine zB ?_ | refine zA ?_ | refine zS ?_ | refine zU ?_ | refine zV ?_ | refine zF ?_ | with_reducible refine yab ?_ | with_reducible refine yad ?_ | refine yaa ?_ | refine yac ?_ | refine yae ?_ | refine zT ?_ | refine zE ?_ | refine zX ?_))
        exact rnd (k + 1) ⟨by omega, idx_next hinv hx h3⟩ (by omega) (by (repeat (first | exact ycd | refine ybn rfl ?_))) yan
    · have h2 : l.length ≤ k := by simpa using h2
      (repeat (first | refine zI ?_ | refine zL ?_ | refine zC ?_ | refine yag ?_ | refine yaf ?_ | refine zR ?_ | refine zD ?_ | refine zK ?_ | refine zB ?_ | refine zA ?_ | refine zS ?_ | refine zU ?_ | refine zV ?_ | refine zF ?_ | with_reducible refine yab ?_ | with_reducible refine yad ?_ | refine yaa ?_ | refine yac ?_ | refine yae ?_ | refine zT ?_ | refine zE ?_ | refine zX ?_))
      refine yar ?_; refine ⟨_, rfl, ?_⟩
      exact frz_i64 (by rw [findL, if_neg hw, idx_end hinv h2])
theorem binarySigns_con : Con Tryz.prog 68 [] (ybj binL) := by
  refine ybw Tryz.func68 rfl rfl Tryz.ntmps68 Tryz.results68 rfl rfl ?_
  (repeat (first | refine zI ?_ | refine zL ?_ | refine zC ?_ | refine yag ?_ | refine yaf ?_ | refine zR ?_ | refine zD ?_ | refine zK ?_ | refine zB ?_ | refine zA ?_ | refine zS ?_ | refine zU ?_ | refine zV ?_ | refine zF ?_ | with_reducible refine yab ?_ | with_reducible refine yad ?_ | refine yaa ?_ | refine yac ?_ | refine yae ?_ | refine zT ?_ | refine zE ?_ | refine zX ?_))
  refine yar ?_; refine ⟨_, rfl, ?_⟩
  exact Frz.pure
theorem aggregateWords_con : Con Tryz.prog 103 [] (ybj aggL) := by
  refine ybw Tryz.func103 rfl rfl Tryz.ntmps103 Tryz.results103 rfl rfl ?_
  (repeat (first | refine zI ?_ | refine zL ?_ | refine zC ?_ | refine yag ?_ | refine yaf ?_ | refine zR ?_ | refine zD ?_ | refine zK ?_ | refine zB ?_ | refine zA ?_ | refine zS ?_ | refine zU ?_ | refine zV ?_ | refine zF ?_ | with_reducible refine yab ?_ | with_reducible refine yad ?_ | refine yaa ?_ | refine yac ?_ | refine yae ?_ | refine zT ?_ | refine zE ?_ | refine zX ?_))
  refine yar ?_; refine ⟨_, rfl, ?_⟩
  exact Frz.pure
theorem constantWords_con : Con Tryz.prog 106 [] (ybj constL) := by
  refine ybw Tryz.func106 rfl rfl Tryz.ntmps106 Tryz.results106 rfl rfl ?_
  (repeat (first | refine zI ?_ | refine zL ?_ | refine zC ?_ | refine yag ?_ | refine yaf ?_ | refine zR ?_ | refine zD ?_ | refine zK ?_ | refine zB ?_ | refine zA ?_ | refine zS ?_ | refine zU ?_ | refine zV ?_ | refine zF ?_ | with_reducible refine yab ?_ | with_reducible refine yad ?_ | refine yaa ?_ | refine yac ?_ | refine yae ?_ | refine zT ?_ | refine zE ?_ | refine zX ?_))
  refine yar ?_; refine ⟨_, rfl, ?_⟩
  exact Frz.pure
theorem fieldWords_con : Con Tryz.prog 105 [] (ybj fieldL) := by
  refine ybw Tryz.func105 rfl rfl Tryz.ntmps105 Tryz.results105 rfl rfl ?_
  (repeat (first | refine zI ?_ | refine zL ?_ | refine zC ?_ | refine yag ?_ | refine yaf ?_ | refine zR ?_ | refine zD ?_ | refine zK ?_ | refine zB ?_ | refine zA ?_ | refine zS ?_ | refine zU ?_ | refine zV ?_ | refine zF ?_ | with_reducible refine yab ?_ | with_reducible refine yad ?_ | refine yaa ?_ | refine yac ?_ | refine yae ?_ | refine zT ?_ | refine zE ?_ | refine zX ?_))
  refine yar ?_; refine ⟨_, rfl, ?_⟩
  exact Frz.pure
theorem binaryOp_con (w : Bs) : Con Tryz.prog 83 [yey (ba w)] (i64 (binO w)) := by
  refine ybw Tryz.func83 rfl rfl Tryz.ntmps83 Tryz.results83 rfl rfl ?_
  (repeat (first | refine zI ?_ | refine zL ?_ | refine zC ?_ | refine yag ?_ | refine yaf ?_ | refine zR ?_ | refine zD ?_ | refine zK ?_ | refine zB ?_ | refine zA ?_ | refine zS ?_ | refine zU ?_ | refine zV ?_ | refine zF ?_ | with_reducible refine yab ?_ | with_reducible refine yad ?_ | refine yaa ?_ | refine yac ?_ | refine yae ?_ | refine zT ?_ | refine zE ?_ | refine zX ?_ | refine yak rfl rfl binarySigns_con rfl rfl ?_ | refine yak rfl rfl (find_con 30 binL w (by omega) (by decide)) rfl rfl ?_))
  refine yar ?_; refine ⟨_, rfl, ?_⟩
  exact Frz.pure
theorem aggregateOp_con (w : Bs) : Con Tryz.prog 119 [yey (ba w)] (i64 (aggO w)) := by
  refine ybw Tryz.func119 rfl rfl Tryz.ntmps119 Tryz.results119 rfl rfl ?_
  (repeat (first | refine zI ?_ | refine zL ?_ | refine zC ?_ | refine yag ?_ | refine yaf ?_ | refine zR ?_ | refine zD ?_ | refine zK ?_ | refine zB ?_ | refine zA ?_ | refine zS ?_ | refine zU ?_ | refine zV ?_ | refine zF ?_ | with_reducible refine yab ?_ | with_reducible refine yad ?_ | refine yaa ?_ | refine yac ?_ | refine yae ?_ | refine zT ?_ | refine zE ?_ | refine zX ?_ | refine yak rfl rfl aggregateWords_con rfl rfl ?_ | refine yak rfl rfl (find_con 20 aggL w (by omega) (by decide)) rfl rfl ?_))
  refine yar ?_; refine ⟨_, rfl, ?_⟩
  exact Frz.pure
theorem yds (w : Bs) : Con Tryz.prog 118 [yey (ba w)] (i64 (yeu w)) := by
  refine ybw Tryz.func118 rfl rfl Tryz.ntmps118 Tryz.results118 rfl rfl ?_
  (repeat (first | refine zI ?_ | refine zL ?_ | refine zC ?_ | refine yag ?_ | refine yaf ?_ | refine zR ?_ | refine zD ?_ | refine zK ?_ | refine zB ?_ | refine zA ?_ | refine zS ?_ | refine zU ?_ | refine zV ?_ | refine zF ?_ | with_reducible refine yab ?_ | with_reducible refine yad ?_ | refine yaa ?_ | refine yac ?_ | refine yae ?_ | refine zT ?_ | refine zE ?_ | refine zX ?_ | refine yak rfl rfl constantWords_con rfl rfl ?_ | refine yak rfl rfl (find_con 2 constL w (by omega) (by decide)) rfl rfl ?_))
  refine yar ?_; refine ⟨_, rfl, ?_⟩
  exact Frz.pure
theorem fieldOp_con (w : Bs) : Con Tryz.prog 128 [yey (ba w)] (i64 (fieldO w)) := by
  refine ybw Tryz.func128 rfl rfl Tryz.ntmps128 Tryz.results128 rfl rfl ?_
  (repeat (first | refine zI ?_ | refine zL ?_ | refine zC ?_ | refine yag ?_ | refine yaf ?_ | refine zR ?_ | refine zD ?_ | refine zK ?_ | refine zB ?_ | refine zA ?_ | refine zS ?_ | refine zU ?_ | refine zV ?_ | refine zF ?_ | with_reducible refine yab ?_ | with_reducible refine yad ?_ | refine yaa ?_ | refine yac ?_ | refine yae ?_ | refine zT ?_ | refine zE ?_ | refine zX ?_ | refine yak rfl rfl fieldWords_con rfl rfl ?_ | refine yak rfl rfl (find_con 13 fieldL w (by omega) (by decide)) rfl rfl ?_))
  refine yar ?_; refine ⟨_, rfl, ?_⟩
  exact Frz.pure
theorem ydm (op : Int) : Con Tryz.prog 65 [i64 op] (i64 (yef op)) := by
  by_cases h : op = 43 ∨ op = 42 ∨ op = 41 ∨ op = 35 ∨ op = 36 ∨ op = 37 ∨ op = 38 ∨ op = 39 ∨ op = 40 ∨ op = 33 ∨ op = 34 ∨ op = 30 ∨ op = 31 ∨ op = 32 ∨ op = 18 ∨ op = 19
  · rcases h with rfl | rfl | rfl | rfl | rfl | rfl | rfl | rfl | rfl | rfl | rfl | rfl | rfl | rfl | rfl | rfl
    all_goals
      refine ybw Tryz.func65 rfl rfl Tryz.ntmps65 Tryz.results65 rfl rfl ?_
      (repeat (first | refine zI ?_ | refine zL ?_ | refine zC ?_ | refine yag ?_ | refine yaf ?_ | refine zR ?_ | refine zD ?_ | refine zK ?_ | refine zB ?_ | refine zA ?_ | refine zS ?_ | refine zU ?_ | refine zV ?_ | refine zF ?_ | with_reducible refine yab ?_ | with_reducible refine yad ?_ | refine yaa ?_ | refine yac ?_ | refine yae ?_ | refine zT ?_ | refine zE ?_ | refine zX ?_))
      refine yar ?_; refine ⟨_, rfl, ?_⟩
      exact Frz.pure
  simp only [not_or] at h
  refine ybw Tryz.func65 rfl rfl Tryz.ntmps65 Tryz.results65 rfl rfl ?_
  iterate 16 ((repeat (first | refine zI ?_ | refine zL ?_ | refine zC ?_ | refine yag ?_ | refine yaf ?_ | refine zR ?_ | refine zD ?_ | refine zK ?_ | refine zB ?_ | refine zA ?_ | refine zS ?_ | refine zU ?_ | refine zV ?_ | refine zF ?_ | with_reducible refine yab ?_ | with_reducible refine yad ?_ | refine yaa ?_ | refine yac ?_ | refine yae ?_ | refine zT ?_ | refine zE ?_ | refine zX ?_)); refine yam rfl (fun h2 => absurd h2 (by simp; omega)) (fun _ => ?_))
  (repeat (first | refine zI ?_ | refine zL ?_ | refine zC ?_ | refine yag ?_ | refine yaf ?_ | refine zR ?_ | refine zD ?_ | refine zK ?_ | refine zB ?_ | refine zA ?_ | refine zS ?_ | refine zU ?_ | refine zV ?_ | refine zF ?_ | with_reducible refine yab ?_ | with_reducible refine yad ?_ | refine yaa ?_ | refine yac ?_ | refine yae ?_ | refine zT ?_ | refine zE ?_ | refine zX ?_))
  refine yar ?_; refine ⟨_, rfl, ?_⟩
  have e : yef op = 7 := by
    unfold yef
    simp only [h, if_false, or_false]
    rw [if_neg (by omega), if_neg (by omega)]
  rw [e]
  exact Frz.pure
theorem A_matVec {P : Program} {N : Nat} {c : Code} {Q : Exit → SS → Prop} {t : List (Nat × AV)} {h : List (Nat × Option LObj)} (id : Nat) {xs : List AV} (hx : yaq h id = some (.mcells xs)) (hp : ∀ y ∈ xs, ybv y = true) (k : A P N c Q (S t ((id, some (.vec xs)) :: h))) : A P N c Q (S t h) := by
  intro B ok0 lv a w hs
  refine k B ok0 lv a w ⟨⟨hs.inv.base, hs.inv.ok0lt, fun j hj => ?_, hs.inv.inj, fun j x hj => ?_⟩, hs.size, hs.frame, hs.defers, hs.big, fun j b ws hN hj hc hb => ?_⟩
  · refine hs.inv.dom j ?_
    simp only [S, yaq] at hj ⊢
    split at hj
    · cases hj
    · exact hj
  · simp only [S, yaq] at hj
    split at hj
    · rename_i hb
      cases hj
      have e := Nat.eq_of_beq_eq_true hb
      subst e
      obtain ⟨b, n, h1, h2⟩ := hs.inv.obj j _ hx
      refine ⟨b, n, h1, ?_⟩
      cases b with
      | none => simp [OwnAt] at h2
      | some b => exact ⟨h2.1, h2.2.1, h2.2.2, hp⟩
    · exact hs.inv.obj j x hj
  · simp only [S, yaq] at hj
    split at hj
    · cases hj; cases hc
    · exact hs.pin j b ws hN hj hc hb
theorem leaf_own (op a : Int) : ConM Tryz.prog 86 [i64 op, i64 a] (yaq []) (.ls 1002 2 1) (yaq [(1002, some (.vec [i64 op, i64 a]))]) := by
  refine yaz tok Tryz.func86 rfl rfl Tryz.ntmps86 Tryz.results86 rfl (fun id o ho hc => ?_) ?_
  · simp only [yaq] at ho
    cases h1 : Nat.beq id 1002 with
    | true => simp only [h1, Option.some.injEq] at ho; subst ho; cases hc
    | false => simp only [h1] at ho; cases ho
  show A _ _ _ _ (S _ _)
  (repeat (first | with_reducible refine yad ?_ | with_reducible refine yab ?_ | refine yac ?_ | refine yaf ?_ | refine yaa ?_)); refine yah (lf := lfT) rfl ?_
  (repeat (first | refine zI ?_ | refine zL ?_ | refine zC ?_ | refine zK ?_ | refine zB ?_ | refine zA ?_ | refine zS ?_ | refine zU ?_ | refine zV ?_ | refine zF ?_ | refine zX ?_ | refine yag ?_))
  (repeat (first | with_reducible refine yad ?_ | with_reducible refine yab ?_ | refine yac ?_ | refine yaf ?_ | refine yaa ?_)); refine yah (lf := lfT) rfl ?_
  (repeat (first | refine zC ?_ | refine zU ?_))
  refine L_buildM tok 1002 rfl rfl rfl rfl rfl rfl ⟨rfl, fun x y h => ?_, fun j ob h => by cases h⟩ rfl rfl rfl rfl ?_
  · exact (freshT_look (id := 1002) rfl) x y h
  (repeat (first | refine zI ?_ | refine zL ?_ | refine zC ?_ | refine zK ?_ | refine zB ?_ | refine zA ?_ | refine zS ?_ | refine zU ?_ | refine zV ?_ | refine zF ?_ | refine zX ?_ | refine yag ?_))
  (repeat (first | with_reducible refine yad ?_ | with_reducible refine yab ?_ | refine yac ?_ | refine yaf ?_ | refine yaa ?_))
  refine A_matVec 1002 rfl (by intro y hy; simp [vMap, repA] at hy; rcases hy with rfl | rfl <;> rfl) ?_
  refine yar ?_
  exact ⟨_, rfl, yav _, yap (yai rfl yan)⟩
theorem leaf_con (op a : Int) : Con Tryz.prog 86 [i64 op, i64 a] (yay [(op, a)]) := by
  refine ybw Tryz.func86 rfl rfl Tryz.ntmps86 Tryz.results86 rfl rfl ?_
  (repeat (first | refine zI ?_ | refine zL ?_ | refine zC ?_ | refine yag ?_ | refine yaf ?_ | refine zR ?_ | refine zD ?_ | refine zK ?_ | refine zB ?_ | refine zA ?_ | refine zS ?_ | refine zU ?_ | refine zV ?_ | refine zF ?_ | with_reducible refine yab ?_ | with_reducible refine yad ?_ | refine yaa ?_ | refine yac ?_ | refine yae ?_ | refine zT ?_ | refine zE ?_ | refine zX ?_))
  refine yar ?_; refine ⟨_, rfl, ?_⟩
  exact Frz.pure
theorem terms_flat (l : List Tm) : (l.map ydg).flatten.length = l.length * 2 := by
  induction l with
  | nil => rfl
  | cons t l ih => simp only [List.map_cons, List.flatten_cons, List.length_append, ih, List.length_cons, ydg, List.length_nil]; omega
theorem terms_pure (l : List Tm) : ∀ c ∈ (l.map ydg).flatten, ybv c = true := by
  intro c hc
  simp only [List.mem_flatten, List.mem_map] at hc
  obtain ⟨r, ⟨t, _, rfl⟩, hc⟩ := hc
  simp only [ydg, List.mem_cons, List.not_mem_nil, or_false] at hc
  rcases hc with rfl | rfl <;> rfl
def encExprs (es : List (List Tm)) : AV := .sl 1 (es.map fun e => [yay e])
theorem operation_con (op : Int) (es : List (List Tm)) (hl : es.length ≤ 10) (h1 : es.flatten.length ≤ 1000000) : Con Tryz.prog 48 [i64 op, encExprs es] (yay ((op, 0) :: es.flatten)) := by
  refine ybw Tryz.func48 rfl rfl Tryz.ntmps48 Tryz.results48 rfl rfl ?_
  (repeat (first | with_reducible refine yad ?_ | with_reducible refine yab ?_ | refine yac ?_ | refine yaf ?_ | refine yaa ?_)); refine yah (lf := lfT) rfl ?_
  (repeat (first | refine zI ?_ | refine zL ?_ | refine zC ?_ | refine zK ?_ | refine zB ?_ | refine zA ?_ | refine zS ?_ | refine zU ?_ | refine zV ?_ | refine zF ?_ | refine zX ?_ | refine yag ?_))
  (repeat (first | with_reducible refine yad ?_ | with_reducible refine yab ?_ | refine yac ?_ | refine yaf ?_ | refine yaa ?_)); refine yah (lf := lfT) rfl ?_
  (repeat (first | refine zI ?_ | refine zL ?_ | refine zC ?_ | refine zK ?_ | refine zB ?_ | refine zA ?_ | refine zS ?_ | refine zU ?_ | refine zV ?_ | refine zF ?_ | refine zX ?_ | refine yag ?_))
  refine L_callM [(1002, 9)] (leaf_own op 0) rfl rfl rfl rfl rfl rfl rfl (yan) rfl rfl rfl rfl rfl rfl ?_
  (repeat (first | refine zI ?_ | refine zL ?_ | refine zC ?_ | refine zK ?_ | refine zB ?_ | refine zA ?_ | refine zS ?_ | refine zU ?_ | refine zV ?_ | refine zF ?_ | refine zX ?_ | refine yag ?_))
  (repeat (first | refine zI ?_ | refine zL ?_ | refine zC ?_ | refine yag ?_ | refine yaf ?_ | refine zR ?_ | refine zD ?_ | refine zK ?_ | refine zB ?_ | refine zA ?_ | refine zS ?_ | refine zU ?_ | refine zV ?_ | refine zF ?_ | with_reducible refine yab ?_ | with_reducible refine yad ?_ | refine yaa ?_ | refine yac ?_ | refine yae ?_ | refine zT ?_ | refine zE ?_ | refine zX ?_))
  refine A_inv (α := Nat) (fun k => [(5, .ls 9 2 (1 + (es.take k).flatten.length)), (12, i64 (k : Int)), (11, i64 (es.length : Int)), (10, encExprs es)]) (fun k => [(9, some (.vec ((((op, 0) :: (es.take k).flatten).map ydg).flatten)))]) (fun k => es.length - k) (fun k => k ≤ es.length) 0 (by omega) (by (repeat (first | exact ycd | refine ybn rfl ?_))) (yai rfl yan) ?_
  intro k hk
  (repeat (first | refine zI ?_ | refine zL ?_ | refine zC ?_ | refine yag ?_ | refine yaf ?_ | refine zR ?_ | refine zD ?_ | refine zK ?_ | refine zB ?_ | refine zA ?_ | refine zS ?_ | refine zU ?_ | refine zV ?_ | refine zF ?_ | with_reducible refine yab ?_ | with_reducible refine yad ?_ | refine yaa ?_ | refine yac ?_ | refine yae ?_ | refine zT ?_ | refine zE ?_ | refine zX ?_))
  refine yam rfl (fun h2 => ?_) (fun h2 => ?_)
  · have h2 : k < es.length := by simpa using h2
    obtain ⟨e, he⟩ := getN' h2
    have hfl : (es.take (k + 1)).flatten = (es.take k).flatten ++ e := by
      rw [List.take_add_one, he]; simp
    have hle : (es.take (k + 1)).flatten.length ≤ es.flatten.length := by
      conv => rhs; rw [← List.take_append_drop (k + 1) es, List.flatten_append, List.length_append]
      omega
    rw [hfl, List.length_append] at hle
    (repeat (first | refine zI ?_ | refine zL ?_ | refine zC ?_ | refine yag ?_ | refine yaf ?_ | refine zR ?_ | refine zD ?_ | refine zK ?_ | refine zB ?_ | refine zA ?_ | refine zS ?_ | refine zU ?_ | refine zV ?_ | refine zF ?_ | with_reducible refine yab ?_ | with_reducible refine yad ?_ | refine yaa ?_ | refine yac ?_ | refine yae ?_ | refine zT ?_ | refine zE ?_ | refine zX ?_))
    refine L_appendV tok (id := 9) (t' := [(12, i64 (k : Int)), (11, i64 (es.length : Int)), (10, encExprs es)]) rfl rfl (by rw [terms_flat]; simp; omega) rfl (terms_pure e) (by rw [List.length_map]; constructor <;> omega) (by (repeat (first | exact subTM_nil | refine subTM_cons rfl rfl ?_))) rfl rfl rfl rfl ?_
    (repeat (first | refine zI ?_ | refine zL ?_ | refine zC ?_ | refine yag ?_ | refine yaf ?_ | refine zR ?_ | refine zD ?_ | refine zK ?_ | refine zB ?_ | refine zA ?_ | refine zS ?_ | refine zU ?_ | refine zV ?_ | refine zF ?_ | with_reducible refine yab ?_ | with_reducible refine yad ?_ | refine yaa ?_ | refine yac ?_ | refine yae ?_ | refine zT ?_ | refine zE ?_ | refine zX ?_))
    have e1 : 1 + (es.take k).flatten.length + (e.map ydg).length = 1 + (es.take (k + 1)).flatten.length := by rw [hfl, List.length_append, List.length_map]; omega
    have e2 : (((op, 0) :: (es.take k).flatten).map ydg).flatten ++ (e.map ydg).flatten = (((op, 0) :: (es.take (k + 1)).flatten).map ydg).flatten := by rw [hfl]; simp
    rw [e1, e2]
    exact rnd (k + 1) (by omega) (by omega) (by (repeat (first | exact ycd | refine ybn rfl ?_))) (yai rfl yan)
  · have h2 : es.length ≤ k := by simpa using h2
    rw [List.take_of_length_le h2]
    (repeat (first | refine zI ?_ | refine zL ?_ | refine zC ?_ | refine yag ?_ | refine yaf ?_ | refine zR ?_ | refine zD ?_ | refine zK ?_ | refine zB ?_ | refine zA ?_ | refine zS ?_ | refine zU ?_ | refine zV ?_ | refine zF ?_ | with_reducible refine yab ?_ | with_reducible refine yad ?_ | refine yaa ?_ | refine yac ?_ | refine yae ?_ | refine zT ?_ | refine zE ?_ | refine zX ?_))
    refine yar ?_; refine ⟨_, rfl, ?_⟩
    refine Frz.ls rfl (by rw [List.length_map, List.length_cons]; omega) (fun row hr => by obtain ⟨t, _, rfl⟩ := List.mem_map.1 hr; rfl) rfl fun x hx i => ybv.ment (terms_pure ((op, 0) :: es.flatten) x hx)
theorem index_con (l : List Bs) (w : Bs) (hl : l.length ≤ 1000) : Con Tryz.prog 77 [ybj l, yey (ba w)] (i64 (match idxW l w with | some i => (i : Int) | none => -1)) := by
  refine ybw Tryz.func77 rfl rfl Tryz.ntmps77 Tryz.results77 rfl rfl ?_
  (repeat (first | refine zI ?_ | refine zL ?_ | refine zC ?_ | refine yag ?_ | refine yaf ?_ | refine zR ?_ | refine zD ?_ | refine zK ?_ | refine zB ?_ | refine zA ?_ | refine zS ?_ | refine zU ?_ | refine zV ?_ | refine zF ?_ | with_reducible refine yab ?_ | with_reducible refine yad ?_ | refine yaa ?_ | refine yac ?_ | refine yae ?_ | refine zT ?_ | refine zE ?_ | refine zX ?_))
  refine A_inv (α := Nat) (fun k => [(8, i64 (k : Int)), (7, i64 (l.length : Int)), (1, yey (ba w)), (0, ybj l)]) (fun k => []) (fun k => l.length - k) (fun k => k ≤ l.length ∧ idxW l w = (idxW (l.drop k) w).map (· + k)) 0 ⟨by omega, by simp⟩ (by (repeat (first | exact ycd | refine ybn rfl ?_))) (yan) ?_
  rintro k ⟨hk, hinv⟩
  (repeat (first | refine zI ?_ | refine zL ?_ | refine zC ?_ | refine yag ?_ | refine yaf ?_ | refine zR ?_ | refine zD ?_ | refine zK ?_ | refine zB ?_ | refine zA ?_ | refine zS ?_ | refine zU ?_ | refine zV ?_ | refine zF ?_ | with_reducible refine yab ?_ | with_reducible refine yad ?_ | refine yaa ?_ | refine yac ?_ | refine yae ?_ | refine zT ?_ | refine zE ?_ | refine zX ?_))
  refine yam rfl (fun h2 => ?_) (fun h2 => ?_)
  · have h2 : k < l.length := by simpa using h2
    obtain ⟨x, hx⟩ := getN' h2
    (repeat (first | refine zI ?_ | refine zL ?_ | refine zC ?_ | refine yag ?_ | refine yaf ?_ | refine zR ?_ | refine zD ?_ | refine zK ?_ | refine zB ?_ | refine zA ?_ | refine zS ?_ | refine zU ?_ | refine zV ?_ | refine zF ?_ | with_reducible refine yab ?_ | with_reducible refine yad ?_ | refine yaa ?_ | refine yac ?_ | refine yae ?_ | refine zT ?_ | refine zE ?_ | refine zX ?_))
    refine yam rfl (fun h3 => ?_) (fun h3 => ?_)
    · have h3 : w = x := by simpa [yem] using h3
      (repeat (first | refine zI ?_ | refine zL ?_ | refine zC ?_ | refine yag ?_ | refine yaf ?_ | refine zR ?_ | refine zD ?_ | refine zK ?_ | refine zB ?_ | refine zA ?_ | refine zS ?_ | refine zU ?_ | refine zV ?_ | refine zF ?_ | with_reducible refine yab ?_ | with_reducible refine yad ?_ | refine yaa ?_ | refine yac ?_ | refine yae ?_ | refine zT ?_ | refine zE ?_ | refine zX ?_))
      refine yar ?_; refine ⟨_, rfl, ?_⟩
      exact frz_i64 (by rw [idx_here hinv hx h3.symm])
    · have h3 : w ≠ x := by simpa [yem] using h3
      (repeat (first | refine zI ?_ | refine zL ?_ | refine zC ?_ | refine yag ?_ | refine yaf ?_ | refine zR ?_ | refine zD ?_ | refine zK ?_ | refine zB ?_ | refine zA ?_ | refine zS ?_ | refine zU ?_ | refine zV ?_ | refine zF ?_ | with_reducible refine yab ?_ | with_reducible refine yad ?_ | refine yaa ?_ | refine yac ?_ | refine yae ?_ | refine zT ?_ | refine zE ?_ | refine zX ?_))
      exact rnd (k + 1) ⟨by omega, idx_next hinv hx h3.symm⟩ (by omega) (by (repeat (first | exact ycd | refine ybn rfl ?_))) yan
  · have h2 : l.length ≤ k := by simpa using h2
    (repeat (first | refine zI ?_ | refine zL ?_ | refine zC ?_ | refine yag ?_ | refine yaf ?_ | refine zR ?_ | refine zD ?_ | refine zK ?_ | refine zB ?_ | refine zA ?_ | refine zS ?_ | refine zU ?_ | refine zV ?_ | refine zF ?_ | with_reducible refine yab ?_ | with_reducible refine yad ?_ | refine yaa ?_ | refine yac ?_ | refine yae ?_ | refine zT ?_ | refine zE ?_ | refine zX ?_))
    refine yar ?_; refine ⟨_, rfl, ?_⟩
    exact frz_i64 (by rw [idx_end hinv h2])
theorem contains_con (l : List Bs) (w : Bs) (hl : l.length ≤ 1000) : Con Tryz.prog 40 [ybj l, yey (ba w)] (boolA (l.contains w)) := by
  refine ybw Tryz.func40 rfl rfl Tryz.ntmps40 Tryz.results40 rfl rfl ?_
  (repeat (first | refine zI ?_ | refine zL ?_ | refine zC ?_ | refine yag ?_ | refine yaf ?_ | refine zR ?_ | refine zD ?_ | refine zK ?_ | refine zB ?_ | refine zA ?_ | refine zS ?_ | refine zU ?_ | refine zV ?_ | refine zF ?_ | with_reducible refine yab ?_ | with_reducible refine yad ?_ | refine yaa ?_ | refine yac ?_ | refine yae ?_ | refine zT ?_ | refine zE ?_ | refine zX ?_ | refine yak rfl rfl (index_con l w hl) rfl rfl ?_))
  refine yar ?_; refine ⟨_, rfl, ?_⟩
  refine ybr ?_
  cases h : idxW l w with
  | none =>
    have : l.contains w = false := by simpa using idx_not h
    rw [this]; rfl
  | some i =>
    have : l.contains w = true := by simpa using idxW_mem h
    rw [this]
    simp
theorem name_con (w : Bs) (hw : w.length ≤ 9223372036854775807) : Con Tryz.prog 39 [yey (ba w)] (boolA (nmW w)) :=
  yep ⟨_, Tryz.func39, rfl, rfl⟩ fun w0 us ok hok hr => by
    obtain ⟨u, rfl, h1⟩ := relAll1 hr
    cases h1
    refine (name_any (ba w) w0 (by rw [ybb]; exact hw)).mono ?_
    rintro e w' ⟨rfl, rfl⟩
    exact ⟨rfl, Below.refl _ _⟩
theorem take_good {nm : Bs → Bool} {names : List Bs} {k : Nat} {x : Bs} (hx : names[k]? = some x) (ha : (names.take k).all nm = true) (hd : (names.take k).Nodup) (h1 : nm x = true) (h2 : (names.take k).contains x = false) : (names.take (k + 1)).all nm = true ∧ (names.take (k + 1)).Nodup := by
  rw [List.take_add_one, hx]
  simp only [Option.toList_some]
  refine ⟨by simp [ha, h1], ?_⟩
  rw [List.nodup_append]
  refine ⟨hd, by simp, fun a ha2 b hb => ?_⟩
  simp only [List.mem_singleton] at hb
  subst hb
  rintro rfl
  simp at h2
  exact h2 ha2
theorem good_false1 {nm : Bs → Bool} {names : List Bs} {k : Nat} {x : Bs} (hx : names[k]? = some x) (h1 : nm x = false) : yeo nm names = false := by
  have : names.all nm = false := by
    rw [List.all_eq_false]
    exact ⟨x, List.mem_of_getElem? hx, by simp [h1]⟩
  simp [yeo, this]
theorem good_false2 {nm : Bs → Bool} {names : List Bs} {k : Nat} {x : Bs} (hx : names[k]? = some x) (h1 : (names.take k).contains x = true) : yeo nm names = false := by
  have : ¬ names.Nodup := by
    intro hn
    rw [← List.take_append_drop k names, List.nodup_append] at hn
    have h2 : x ∈ names.drop k := by rw [drop_at' hx]; simp
    exact hn.2.2 x (by simpa using h1) x h2 rfl
  simp [yeo, this]
theorem good_con (names : List Bs) (hl : names.length ≤ 1000) (hn : ∀ x ∈ names, x.length ≤ 1000) : Con Tryz.prog 19 [ybj names] (boolA (yeo nmW names)) := by
  refine ybw Tryz.func19 rfl rfl Tryz.ntmps19 Tryz.results19 rfl rfl ?_
  (repeat (first | refine zI ?_ | refine zL ?_ | refine zC ?_ | refine yag ?_ | refine yaf ?_ | refine zR ?_ | refine zD ?_ | refine zK ?_ | refine zB ?_ | refine zA ?_ | refine zS ?_ | refine zU ?_ | refine zV ?_ | refine zF ?_ | with_reducible refine yab ?_ | with_reducible refine yad ?_ | refine yaa ?_ | refine yac ?_ | refine yae ?_ | refine zT ?_ | refine zE ?_ | refine zX ?_))
  refine yam rfl (fun h1 => ?_) (fun h1 => ?_)
  · have h1 : 6 < names.length := by simp at h1; omega
    (repeat (first | refine zI ?_ | refine zL ?_ | refine zC ?_ | refine yag ?_ | refine yaf ?_ | refine zR ?_ | refine zD ?_ | refine zK ?_ | refine zB ?_ | refine zA ?_ | refine zS ?_ | refine zU ?_ | refine zV ?_ | refine zF ?_ | with_reducible refine yab ?_ | with_reducible refine yad ?_ | refine yaa ?_ | refine yac ?_ | refine yae ?_ | refine zT ?_ | refine zE ?_ | refine zX ?_))
    refine yar ?_; refine ⟨_, rfl, ?_⟩
    exact ybr (by simp [yeo, show ¬ names.length ≤ 6 by omega])
  have h1 : names.length ≤ 6 := by simp at h1; omega
  (repeat (first | refine zI ?_ | refine zL ?_ | refine zC ?_ | refine yag ?_ | refine yaf ?_ | refine zR ?_ | refine zD ?_ | refine zK ?_ | refine zB ?_ | refine zA ?_ | refine zS ?_ | refine zU ?_ | refine zV ?_ | refine zF ?_ | with_reducible refine yab ?_ | with_reducible refine yad ?_ | refine yaa ?_ | refine yac ?_ | refine yae ?_ | refine zT ?_ | refine zE ?_ | refine zX ?_))
  refine A_inv (α := Nat) (fun k => [(10, i64 (k : Int)), (9, i64 (names.length : Int)), (8, ybj names), (0, ybj names)]) (fun k => []) (fun k => names.length - k) (fun k => k ≤ names.length ∧ (names.take k).all nmW = true ∧ (names.take k).Nodup) 0 ⟨by omega, by simp, by simp⟩ (by (repeat (first | exact ycd | refine ybn rfl ?_))) (yan) ?_
  rintro k ⟨hk, ha, hd⟩
  (repeat (first | refine zI ?_ | refine zL ?_ | refine zC ?_ | refine yag ?_ | refine yaf ?_ | refine zR ?_ | refine zD ?_ | refine zK ?_ | refine zB ?_ | refine zA ?_ | refine zS ?_ | refine zU ?_ | refine zV ?_ | refine zF ?_ | with_reducible refine yab ?_ | with_reducible refine yad ?_ | refine yaa ?_ | refine yac ?_ | refine yae ?_ | refine zT ?_ | refine zE ?_ | refine zX ?_))
  refine yam rfl (fun h2 => ?_) (fun h2 => ?_)
  · have h2 : k < names.length := by simpa using h2
    obtain ⟨x, hx⟩ := getN' h2
    have hxl := hn x (List.mem_of_getElem? hx)
    (repeat (first | refine zI ?_ | refine zL ?_ | refine zC ?_ | refine yag ?_ | refine yaf ?_ | refine zR ?_ | refine zD ?_ | refine zK ?_ | refine zB ?_ | refine zA ?_ | refine zS ?_ | refine zU ?_ | refine zV ?_ | refine zF ?_ | with_reducible refine yab ?_ | with_reducible refine yad ?_ | refine yaa ?_ | refine yac ?_ | refine yae ?_ | refine zT ?_ | refine zE ?_ | refine zX ?_ | refine yak rfl rfl (name_con x (by omega)) rfl rfl ?_))
    refine ych 18 rfl (fun h3 => ?_) (fun h3 => ?_)
    · (repeat (first | refine zI ?_ | refine zL ?_ | refine zC ?_ | refine yag ?_ | refine yaf ?_ | refine zR ?_ | refine zD ?_ | refine zK ?_ | refine zB ?_ | refine zA ?_ | refine zS ?_ | refine zU ?_ | refine zV ?_ | refine zF ?_ | with_reducible refine yab ?_ | with_reducible refine yad ?_ | refine yaa ?_ | refine yac ?_ | refine yae ?_ | refine zT ?_ | refine zE ?_ | refine zX ?_))
      refine yar ?_; refine ⟨_, rfl, ?_⟩
      exact ybr (good_false1 hx (by simpa using h3)).symm
    · (repeat (first | refine zI ?_ | refine zL ?_ | refine zC ?_ | refine yag ?_ | refine yaf ?_ | refine zR ?_ | refine zD ?_ | refine zK ?_ | refine zB ?_ | refine zA ?_ | refine zS ?_ | refine zU ?_ | refine zV ?_ | refine zF ?_ | with_reducible refine yab ?_ | with_reducible refine yad ?_ | refine yaa ?_ | refine yac ?_ | refine yae ?_ | refine zT ?_ | refine zE ?_ | refine zX ?_ | refine L_slslice tok rfl rfl rfl rfl (by show (0 : Int) ≤ 0; omega) (by show (0 : Int) ≤ (k : Int); omega) (by show (k : Int) ≤ ((List.map _ names).length : Int); rw [List.length_map]; omega) rfl rfl ?_))
      rw [show List.drop (((none : Option Int)).getD 0).toNat (List.take ((some (k : Int)).getD ((names.map fun x => [yey (ba x)]).length : Int)).toNat (names.map fun x => [yey (ba x)])) = (names.take k).map (fun x => [yey (ba x)]) by simp [List.map_take]]
      (repeat (first | refine zI ?_ | refine zL ?_ | refine zC ?_ | refine yag ?_ | refine yaf ?_ | refine zR ?_ | refine zD ?_ | refine zK ?_ | refine zB ?_ | refine zA ?_ | refine zS ?_ | refine zU ?_ | refine zV ?_ | refine zF ?_ | with_reducible refine yab ?_ | with_reducible refine yad ?_ | refine yaa ?_ | refine yac ?_ | refine yae ?_ | refine zT ?_ | refine zE ?_ | refine zX ?_ | refine yak rfl rfl (contains_con (names.take k) x (by rw [List.length_take]; omega)) rfl rfl ?_))
      refine yam rfl (fun h4 => ?_) (fun h4 => ?_)
      · (repeat (first | refine zI ?_ | refine zL ?_ | refine zC ?_ | refine yag ?_ | refine yaf ?_ | refine zR ?_ | refine zD ?_ | refine zK ?_ | refine zB ?_ | refine zA ?_ | refine zS ?_ | refine zU ?_ | refine zV ?_ | refine zF ?_ | with_reducible refine yab ?_ | with_reducible refine yad ?_ | refine yaa ?_ | refine yac ?_ | refine yae ?_ | refine zT ?_ | refine zE ?_ | refine zX ?_))
        refine yar ?_; refine ⟨_, rfl, ?_⟩
        exact ybr (good_false2 hx h4).symm
      · (repeat (first | refine zI ?_ | refine zL ?_ | refine zC ?_ | refine yag ?_ | refine yaf ?_ | refine zR ?_ | refine zD ?_ | refine zK ?_ | refine zB ?_ | refine zA ?_ | refine zS ?_ | refine zU ?_ | refine zV ?_ | refine zF ?_ | with_reducible refine yab ?_ | with_reducible refine yad ?_ | refine yaa ?_ | refine yac ?_ | refine yae ?_ | refine zT ?_ | refine zE ?_ | refine zX ?_))
        have := take_good hx ha hd (by simpa using h3) h4
        exact rnd (k + 1) ⟨by omega, this.1, this.2⟩ (by omega) (by (repeat (first | exact ycd | refine ybn rfl ?_))) yan
  · have h2 : names.length ≤ k := by simpa using h2
    rw [List.take_of_length_le h2] at ha hd
    (repeat (first | refine zI ?_ | refine zL ?_ | refine zC ?_ | refine yag ?_ | refine yaf ?_ | refine zR ?_ | refine zD ?_ | refine zK ?_ | refine zB ?_ | refine zA ?_ | refine zS ?_ | refine zU ?_ | refine zV ?_ | refine zF ?_ | with_reducible refine yab ?_ | with_reducible refine yad ?_ | refine yaa ?_ | refine yac ?_ | refine yae ?_ | refine zT ?_ | refine zE ?_ | refine zX ?_))
    refine yar ?_; refine ⟨_, rfl, ?_⟩
    exact ybr (by simp only [yeo, ha, decide_eq_true hd, decide_eq_true h1]; rfl)
end Go.Proofs.YtcpgpiabeimefaaGreatDoor
