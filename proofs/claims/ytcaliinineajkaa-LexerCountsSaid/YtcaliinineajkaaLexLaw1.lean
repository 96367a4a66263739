/- The walks over the laws LexerKnowsWords and LexerCounts. -/
import Derived.Test.YtcaliinineajkaaLexUse
import Derived.Test.YtcaliinineajkaaLexWords
namespace Go.Proofs.Ytcaliinineajkaa
open Go.RowKit

set_option maxHeartbeats 1000000 in
theorem walk_LexerKnowsWords (s : ByteArray) (w : World) (hs : s.size ≤ maxLen) :
    Calls Try.prog 9 #[.string s] w fun e w' => e = .returned (.bool true) ∧ Below w.heap.size w w' := by
  unfold maxLen at hs
  by_cases h1 : 100 < s.size
  · go_enter Try.func9, Try.ntmps9
    go_wp2_with (go_at_call 10; refine (awake_any _).mono ?_; rintro e w' ⟨rfl, hb⟩)
    go_ret
    exact ⟨rfl, hb⟩
  · have hnr := name_not_reserved s
    rcases Bool.eq_false_or_eq_true (nameB s) with hn | hn
    · have hr := hnr hn
      clear hnr
      go_enter Try.func9, Try.ntmps9
      go_wp2_with (first | (go_at_call 10; refine (awake_any _).mono ?_; rintro e w3 ⟨rfl, hb⟩) | (go_at_call 17; refine (reserved_any _ _).mono ?_; rintro e w' ⟨rfl, rfl⟩) | (go_at_call 18; refine (rreserved_any _ _).mono ?_; rintro e w' ⟨rfl, rfl⟩) | (go_at_call 19; refine (name_any _ _ hs).mono ?_; rintro e w' ⟨rfl, rfl⟩) | (go_at_call 20; refine (rname_any _ _ hs).mono ?_; rintro e w' ⟨rfl, rfl⟩))
      go_ret
      exact ⟨rfl, hb⟩
    · clear hnr
      go_enter Try.func9, Try.ntmps9
      go_wp2_with (first | (go_at_call 10; refine (awake_any _).mono ?_; rintro e w3 ⟨rfl, hb⟩) | (go_at_call 17; refine (reserved_any _ _).mono ?_; rintro e w' ⟨rfl, rfl⟩) | (go_at_call 18; refine (rreserved_any _ _).mono ?_; rintro e w' ⟨rfl, rfl⟩) | (go_at_call 19; refine (name_any _ _ hs).mono ?_; rintro e w' ⟨rfl, rfl⟩) | (go_at_call 20; refine (rname_any _ _ hs).mono ?_; rintro e w' ⟨rfl, rfl⟩))
      go_ret
      exact ⟨rfl, hb⟩

set_option maxHeartbeats 1000000 in
set_option maxRecDepth 100000 in
theorem walk_LexerCounts (s : ByteArray) (n : Int) (w : World) (hs : s.size ≤ maxLen) (hn : (Lit.int .u16 n).wf = true) :
    Calls Try.prog 4 #[.string s, .int .u16 n] w fun e w' => e = .returned (.bool true) ∧ Below w.heap.size w w' := by
  unfold maxLen at hs
  have hx : 0 ≤ n ∧ n ≤ 65535 := by simpa [Lit.wf, IntKind.min, IntKind.max, IntKind.signed, IntKind.bits] using hn
  have hn0 := hx.1
  have hn1 := hx.2
  clear hx hn
  by_cases h1 : 3 < s.size
  · go_enter Try.func4, Try.ntmps4
    go_wp2_with (go_at_call 10; refine (awake_any _).mono ?_; rintro e w' ⟨rfl, hb⟩)
    go_ret
    exact ⟨rfl, hb⟩
  · go_enter Try.func4, Try.ntmps4
    go_wp2_with fail
    go_loop [5, 6] (fun x i => ∃ (k : Nat) (t : ByteArray), k ≤ 4200 ∧ i = .int .i64 k ∧ x = .string t ∧ t.size ≤ 16394) (fun _ i => 4200 - (intOf i).toNat)
    case atStart => exact ⟨0, _, by omega, rfl, rfl, by decide⟩
    case round =>
      obtain ⟨k, t, hk, rfl, rfl, ht⟩ := hrel
      go_wp2_with fail
      · have hx : (t ++ (s ++ { data := #[32] })).size ≤ 9223372036854775807 := by rw [ByteArray.size_append, ByteArray.size_append]; show t.size + (s.size + 1) ≤ _; omega
        generalize t ++ (s ++ { data := #[32] }) = t2 at *
        rcases hsc : scanF t2 with ⟨p, y⟩ | ts
        · have H := Lib.hid hsc
          clear hsc
          go_wp2_with (first | (go_at_call 11; refine (scan_err t2 p y _ hx H.out).mono ?_; rintro e w1 ⟨rfl, hb1⟩) | (go_at_call 12; refine (rscan_err t2 p y _ hx H.out).mono ?_; rintro e w2 ⟨rfl, hb2⟩) | (go_at_call 10; refine (awake_any _).mono ?_; rintro e w3 ⟨rfl, hb3⟩) | (go_at_call 13; refine (rsame_any _ _ [] _ (by simp) (toks_nil _) (toks_nil _)).mono ?_; rintro e w4 ⟨rfl, hb4⟩))
          go_ret
          exact ⟨by simp, bthen (bthen (bthen hb1 hb2) hb3) hb4⟩
        · have H := Lib.hid hsc
          have hl := scanF_len hsc
          clear hsc
          go_wp2_with (first | (go_at_call 11; refine (scan_ok t2 ts _ hx H.out).mono ?_; rintro e w1 ⟨v1, rfl, ht1, hb1⟩) | (go_at_call 12; refine (rscan_ok t2 ts _ hx H.out).mono ?_; rintro e w2 ⟨v2, rfl, ht2, hb2⟩) | (go_at_call 10; refine (awake_any _).mono ?_; rintro e w3 ⟨rfl, hb3⟩) | (go_at_call 13; refine (rsame_any _ _ ts _ hl (ht1.below (bthen hb2 hb3)) (ht2.below hb3)).mono ?_; rintro e w4 ⟨rfl, hb4⟩))
          go_ret
          exact ⟨rfl, bthen (bthen (bthen hb1 hb2) hb3) hb4⟩
      · exact ⟨⟨k + 1, _, by omega, by go_num, rfl, by rw [ByteArray.size_append, ByteArray.size_append]; show t.size + (s.size + 1) ≤ _; omega⟩, by simp [intOf]; omega⟩
      · have hx : t.size ≤ 9223372036854775807 := by omega
        rcases hsc : scanF t with ⟨p, y⟩ | ts
        · have H := Lib.hid hsc
          clear hsc
          go_wp2_with (first | (go_at_call 11; refine (scan_err t p y _ hx H.out).mono ?_; rintro e w1 ⟨rfl, hb1⟩) | (go_at_call 12; refine (rscan_err t p y _ hx H.out).mono ?_; rintro e w2 ⟨rfl, hb2⟩) | (go_at_call 10; refine (awake_any _).mono ?_; rintro e w3 ⟨rfl, hb3⟩) | (go_at_call 13; refine (rsame_any _ _ [] _ (by simp) (toks_nil _) (toks_nil _)).mono ?_; rintro e w4 ⟨rfl, hb4⟩))
          go_ret
          exact ⟨by simp, bthen (bthen (bthen hb1 hb2) hb3) hb4⟩
        · have H := Lib.hid hsc
          have hl := scanF_len hsc
          clear hsc
          go_wp2_with (first | (go_at_call 11; refine (scan_ok t ts _ hx H.out).mono ?_; rintro e w1 ⟨v1, rfl, ht1, hb1⟩) | (go_at_call 12; refine (rscan_ok t ts _ hx H.out).mono ?_; rintro e w2 ⟨v2, rfl, ht2, hb2⟩) | (go_at_call 10; refine (awake_any _).mono ?_; rintro e w3 ⟨rfl, hb3⟩) | (go_at_call 13; refine (rsame_any _ _ ts _ hl (ht1.below (bthen hb2 hb3)) (ht2.below hb3)).mono ?_; rintro e w4 ⟨rfl, hb4⟩))
          go_ret
          exact ⟨rfl, bthen (bthen (bthen hb1 hb2) hb3) hb4⟩
end Go.Proofs.Ytcaliinineajkaa
