/- The walk over the reference's token. -/
import Derived.Test.YtcaliinineajkaaLexWalk3
import Derived.Deep.LoopGhost
namespace Go.Proofs.Ytcaliinineajkaa
open Go.RowKit

def tokObj (k a e n : Int) : Obj := .cells #[.int .i64 k, .int .i64 a, .int .i64 e, .int .i64 n] 32

set_option maxHeartbeats 1000000 in
theorem rtoken_word (s : ByteArray) (a : Nat) (w : World) (hs : s.size ≤ 20000) (ha : a < s.size) (hl : letterB s[a] = true) :
    Calls Try.prog 24 #[.string s, .int .i64 a] w (NextRet s a w) := by
  have HW : Hid (runTo wordB s a = runTo wordB s (a + 1)) := Lib.hid (runTo_yes wordB s a ha (by simp [wordB, hl]))
  go_enter Try.func24, Try.ntmps24
  go_wp2_with (first | (go_at_call 27; refine (rletter_any _ _).mono ?_; rintro e w' ⟨rfl, rfl⟩))
  go_loopg [] (s.size - (a + 1)) (fun m wr => ∃ k : Nat, a < k ∧ k ≤ s.size ∧ Hid (m = s.size - k) ∧ Hid (runTo wordB s a = runTo wordB s k) ∧ wr = (w.alloc (.cells #[.int .i64 0, .int .i64 0, .int .i64 0, .int .i64 0] 32)).alloc (.cells #[.int .i64 1, .int .i64 a, .int .i64 k, .int .i64 0] 32))
  case atStart => exact ⟨a + 1, by omega, by omega, rfl, HW, rfl⟩
  case round =>
    obtain ⟨k, hk, hk', hm, hk2, rfl⟩ := hrel
    by_cases hlt : k < s.size
    · cases hp : wordB s[k]
      · have HE : Hid (runTo wordB s a = k) := Lib.hid (hk2.out.trans (runTo_no _ s k hlt hp))
        by_cases h24 : 24 < k - a
        · go_wp2_with (first | (go_at_call 28; refine (rinner_any _ _).mono ?_; rintro e w' ⟨rfl, rfl⟩))
          refine bodyPost_ret (v := .tuple #[.agg #[.int .i64 0, .int .i64 0, .int .i64 0, .int .i64 0], .int .i64 5]) (by simp [results, Try.results24, go_sem]) rfl ⟨?_, .inr ⟨5, tok_word_bad s a ha hl (by rw [HE.out]; omega), by omega, by omega, rfl⟩⟩
          repeat (first | exact Below.refl _ _ | refine Below.setCell ?_ (by simp) _ | refine Below.alloc ?_ (by simp) _)
        · go_wp2_with (first | (go_at_call 28; refine (rinner_any _ _).mono ?_; rintro e w' ⟨rfl, rfl⟩))
          refine bodyPost_ret (v := .tuple #[.agg #[.int .i64 1, .int .i64 a, .int .i64 k, .int .i64 0], .int .i64 0]) (by simp [results, Try.results24, go_sem]) rfl ⟨?_, .inl ⟨1, _, 0, tok_word s a ha hl (by rw [HE.out]; omega), ?_⟩⟩
          · repeat (first | exact Below.refl _ _ | refine Below.setCell ?_ (by simp) _ | refine Below.alloc ?_ (by simp) _)
          · rw [HE.out, show a + (k - a) = k by omega]; rfl
      · go_wp2_with (first | (go_at_call 28; refine (rinner_any _ _).mono ?_; rintro e w' ⟨rfl, rfl⟩))
        go_roundg (s.size - (k + 1))
        case measure => have := hm.out; omega
        case rel => exact ⟨k + 1, by omega, by omega, rfl, hk2.out.trans (runTo_yes _ s k hlt hp), by go_num⟩
    · have HE : Hid (runTo wordB s a = k) := Lib.hid (hk2.out.trans (runTo_end _ s k (by omega)))
      by_cases h24 : 24 < k - a
      · go_wp2_with (first | (go_at_call 28; refine (rinner_any _ _).mono ?_; rintro e w' ⟨rfl, rfl⟩))
        refine bodyPost_ret (v := .tuple #[.agg #[.int .i64 0, .int .i64 0, .int .i64 0, .int .i64 0], .int .i64 5]) (by simp [results, Try.results24, go_sem]) rfl ⟨?_, .inr ⟨5, tok_word_bad s a ha hl (by rw [HE.out]; omega), by omega, by omega, rfl⟩⟩
        repeat (first | exact Below.refl _ _ | refine Below.setCell ?_ (by simp) _ | refine Below.alloc ?_ (by simp) _)
      · go_wp2_with (first | (go_at_call 28; refine (rinner_any _ _).mono ?_; rintro e w' ⟨rfl, rfl⟩))
        refine bodyPost_ret (v := .tuple #[.agg #[.int .i64 1, .int .i64 a, .int .i64 k, .int .i64 0], .int .i64 0]) (by simp [results, Try.results24, go_sem]) rfl ⟨?_, .inl ⟨1, _, 0, tok_word s a ha hl (by rw [HE.out]; omega), ?_⟩⟩
        · repeat (first | exact Below.refl _ _ | refine Below.setCell ?_ (by simp) _ | refine Below.alloc ?_ (by simp) _)
        · rw [HE.out, show a + (k - a) = k by omega]; rfl

set_option maxHeartbeats 1000000 in
theorem rtoken_num (s : ByteArray) (a : Nat) (w : World) (hs : s.size ≤ 20000) (ha : a < s.size) (hl : letterB s[a] = false) (hd : digitB s[a] = true) :
    Calls Try.prog 24 #[.string s, .int .i64 a] w (NextRet s a w) := by
  have HW : Hid (runTo digitB s a = runTo digitB s (a + 1)) := Lib.hid (runTo_yes digitB s a ha hd)
  go_enter Try.func24, Try.ntmps24
  go_wp2_with (first | (go_at_call 27; refine (rletter_any _ _).mono ?_; rintro e w' ⟨rfl, rfl⟩) | (go_at_call 33; refine (rdigit_any _ _).mono ?_; rintro e w' ⟨rfl, rfl⟩))
  go_loopg [] (s.size - (a + 1)) (fun m wr => ∃ k : Nat, a < k ∧ k ≤ s.size ∧ Hid (m = s.size - k) ∧ Hid (runTo digitB s a = runTo digitB s k) ∧ wr = (w.alloc (.cells #[.int .i64 0, .int .i64 0, .int .i64 0, .int .i64 0] 32)).alloc (.cells #[.int .i64 2, .int .i64 a, .int .i64 k, .int .i64 0] 32))
  case atStart => exact ⟨a + 1, by omega, by omega, rfl, HW, rfl⟩
  case round =>
    obtain ⟨k, hk, hk', hm, hk2, rfl⟩ := hrel
    by_cases hlt : k < s.size
    · cases hp : digitB s[k]
      · have HE : Hid (runTo digitB s a = k) := Lib.hid (hk2.out.trans (runTo_no _ s k hlt hp))
        have hz : 0 < (s.extract a k).size := by rw [size_extract _ _ _ (by omega)]; omega
        have hz2 : (s.extract a k).size ≤ 20000 := by rw [size_extract _ _ _ (by omega)]; omega
        have HD : Hid (∀ c ∈ bytesFrom (s.extract a k) 0, digitB c = true) := by have := digits_of s a; rw [HE.out] at this; exact this
        go_wp2_with (first | (go_at_call 33; refine (rdigit_any _ _).mono ?_; rintro e w' ⟨rfl, rfl⟩) | (go_at_call 34; refine (rnumber_any _ _ hz2 hz HD).mono ?_; rintro e w' ⟨rfl, ⟨v, hv, rfl⟩ | ⟨v, hv, rfl⟩⟩ <;> have HV := Lib.hid hv <;> clear hv))
        · have hn := tok_num s a v ha hl hd (by rw [HE.out]; exact HV.out)
          refine bodyPost_ret (v := .tuple #[.agg #[.int .i64 2, .int .i64 a, .int .i64 k, .int .i64 v], .int .i64 0]) (by simp [results, Try.results24, go_sem]) rfl ⟨?_, .inl ⟨2, _, v, hn, ?_⟩⟩
          · repeat (first | exact Below.refl _ _ | refine Below.setCell ?_ (by simp) _ | refine Below.alloc ?_ (by simp) _)
          · rw [HE.out, show a + (k - a) = k by omega]; rfl
        · have hn := tok_num_bad s a ha hl hd (by rw [HE.out]; exact HV.out)
          refine bodyPost_ret (v := .tuple #[.agg #[.int .i64 0, .int .i64 0, .int .i64 0, .int .i64 0], .int .i64 2]) (by simp [results, Try.results24, go_sem]) rfl ⟨?_, .inr ⟨2, hn, by omega, by omega, rfl⟩⟩
          repeat (first | exact Below.refl _ _ | refine Below.setCell ?_ (by simp) _ | refine Below.alloc ?_ (by simp) _)
      · go_wp2_with (first | (go_at_call 33; refine (rdigit_any _ _).mono ?_; rintro e w' ⟨rfl, rfl⟩))
        go_roundg (s.size - (k + 1))
        case measure => have := hm.out; omega
        case rel => exact ⟨k + 1, by omega, by omega, rfl, hk2.out.trans (runTo_yes _ s k hlt hp), by go_num⟩
    · have HE : Hid (runTo digitB s a = k) := Lib.hid (hk2.out.trans (runTo_end _ s k (by omega)))
      have hz : 0 < (s.extract a k).size := by rw [size_extract _ _ _ (by omega)]; omega
      have hz2 : (s.extract a k).size ≤ 20000 := by rw [size_extract _ _ _ (by omega)]; omega
      have HD : Hid (∀ c ∈ bytesFrom (s.extract a k) 0, digitB c = true) := by have := digits_of s a; rw [HE.out] at this; exact this
      go_wp2_with (first | (go_at_call 33; refine (rdigit_any _ _).mono ?_; rintro e w' ⟨rfl, rfl⟩) | (go_at_call 34; refine (rnumber_any _ _ hz2 hz HD).mono ?_; rintro e w' ⟨rfl, ⟨v, hv, rfl⟩ | ⟨v, hv, rfl⟩⟩ <;> have HV := Lib.hid hv <;> clear hv))
      · have hn := tok_num s a v ha hl hd (by rw [HE.out]; exact HV.out)
        refine bodyPost_ret (v := .tuple #[.agg #[.int .i64 2, .int .i64 a, .int .i64 k, .int .i64 v], .int .i64 0]) (by simp [results, Try.results24, go_sem]) rfl ⟨?_, .inl ⟨2, _, v, hn, ?_⟩⟩
        · repeat (first | exact Below.refl _ _ | refine Below.setCell ?_ (by simp) _ | refine Below.alloc ?_ (by simp) _)
        · rw [HE.out, show a + (k - a) = k by omega]; rfl
      · have hn := tok_num_bad s a ha hl hd (by rw [HE.out]; exact HV.out)
        refine bodyPost_ret (v := .tuple #[.agg #[.int .i64 0, .int .i64 0, .int .i64 0, .int .i64 0], .int .i64 2]) (by simp [results, Try.results24, go_sem]) rfl ⟨?_, .inr ⟨2, hn, by omega, by omega, rfl⟩⟩
        repeat (first | exact Below.refl _ _ | refine Below.setCell ?_ (by simp) _ | refine Below.alloc ?_ (by simp) _)

set_option maxHeartbeats 1000000 in
theorem rtoken_sign (s : ByteArray) (a : Nat) (w : World) (hs : s.size ≤ 20000) (ha : a < s.size) (hl : letterB s[a] = false) (hd : digitB s[a] = false) :
    Calls Try.prog 24 #[.string s, .int .i64 a] w (NextRet s a w) := by
  have hsl := signL_le (bytesFrom s a)
  rw [bytesFrom_length] at hsl
  by_cases h0 : signL (bytesFrom s a) = 0
  · have h1 : ¬ 0 < signL (bytesFrom s a) := by omega
    have H0 := Lib.hid h0
    clear h0
    go_enter Try.func24, Try.ntmps24
    go_wp2_with (first | (go_at_call 27; refine (rletter_any _ _).mono ?_; rintro e w' ⟨rfl, rfl⟩) | (go_at_call 33; refine (rdigit_any _ _).mono ?_; rintro e w' ⟨rfl, rfl⟩) | (go_at_call 35; refine (rsign_any s a _ hs ha).mono ?_; rintro e w' ⟨rfl, rfl⟩))
    refine bodyPost_ret (v := .tuple #[.agg #[.int .i64 0, .int .i64 0, .int .i64 0, .int .i64 0], .int .i64 4]) (by simp [results, Try.results24, go_sem]) rfl ⟨?_, .inr ⟨4, tok_sign_bad s a ha hl hd H0.out, by omega, by omega, rfl⟩⟩
    repeat (first | exact Below.refl _ _ | refine Below.setCell ?_ (by simp) _ | refine Below.alloc ?_ (by simp) _)
  · have h1 : 0 < signL (bytesFrom s a) := by omega
    have H0 := Lib.hid h0
    clear h0
    go_enter Try.func24, Try.ntmps24
    go_wp2_with (first | (go_at_call 27; refine (rletter_any _ _).mono ?_; rintro e w' ⟨rfl, rfl⟩) | (go_at_call 33; refine (rdigit_any _ _).mono ?_; rintro e w' ⟨rfl, rfl⟩) | (go_at_call 35; refine (rsign_any s a _ hs ha).mono ?_; rintro e w' ⟨rfl, rfl⟩))
    refine bodyPost_ret (v := .tuple #[.agg #[.int .i64 3, .int .i64 a, .int .i64 ((a + signL (bytesFrom s a) : Nat) : Int), .int .i64 0], .int .i64 0]) (by simp [results, Try.results24, go_sem]) rfl ⟨?_, .inl ⟨3, _, 0, tok_sign s a ha hl hd H0.out, ?_⟩⟩
    · repeat (first | exact Below.refl _ _ | refine Below.setCell ?_ (by simp) _ | refine Below.alloc ?_ (by simp) _)
    · rfl

theorem rtoken_any (s : ByteArray) (a : Nat) (w : World) (hs : s.size ≤ 20000) (ha : a < s.size) :
    Calls Try.prog 24 #[.string s, .int .i64 a] w (NextRet s a w) := by
  cases hl : letterB s[a]
  · cases hd : digitB s[a]
    · exact rtoken_sign s a w hs ha hl hd
    · exact rtoken_num s a w hs ha hl hd
  · exact rtoken_word s a w hs ha hl
end Go.Proofs.Ytcaliinineajkaa
