/- Scan's contracts by its outcome, for the laws. -/
import Derived.Test.YtcaliinineajkaaLexSame
namespace Go.Proofs.Ytcaliinineajkaa
open Go.RowKit

theorem bthen {w w1 w2 : World} (h1 : Below w.heap.size w w1) (h2 : Below w1.heap.size w1 w2) : Below w.heap.size w w2 := h1.trans (h2.mono h1.size)

/-- A call that returns tokens: the slice reads as them; nothing old has turned. -/
def TokRet (ts : List Tok) (w : World) (e : Ending) (w' : World) : Prop :=
  ∃ v, e = .returned (.tuple #[v, .int .i64 0, .int .i64 0]) ∧ Toks w' v ts ∧ Below w.heap.size w w'

theorem scan_len (left : Nat) : ∀ (p : Nat) (r : List UInt8) (ts : List Tok), scanL left p r = .ok ts → ts.length ≤ left := by
  induction left with
  | zero =>
    intro p r ts h
    rw [scanL] at h
    split at h <;> simp at h
    subst h; simp
  | succ left ih =>
    intro p r ts h
    rw [scanL] at h
    split at h
    · simp at h; subst h; simp
    · split at h
      · simp at h
      · rename_i k n v _
        generalize hq : scanL left (p + skipL false r + n) ((r.drop (skipL false r)).drop n) = q at h
        cases q with
        | error e => simp [consTok] at h
        | ok us =>
          simp [consTok] at h
          subst h
          have := ih _ _ _ hq
          simp; omega
theorem scanF_len {s : ByteArray} {ts : List Tok} (h : scanF s = .ok ts) : ts.length ≤ 4096 := by
  unfold scanF at h
  split at h
  · simp at h
  · exact scan_len _ _ _ _ h

theorem scan_ok (s : ByteArray) (ts : List Tok) (w : World) (hs : s.size ≤ 9223372036854775807) (h : scanF s = .ok ts) :
    Calls Try.prog 11 #[.string s] w (TokRet ts w) :=
  (scan_any s w hs).mono fun e w' ⟨hb, hr⟩ => by
    rcases hr with ⟨us, v, h1, h2, h3, h4⟩ | ⟨p, x, h1, _⟩
    · rw [h] at h1; cases h1; exact ⟨v, h3, toks_of_own h4, hb⟩
    · rw [h] at h1; cases h1
theorem scan_err (s : ByteArray) (p x : Nat) (w : World) (hs : s.size ≤ 9223372036854775807) (h : scanF s = .error (p, x)) :
    Calls Try.prog 11 #[.string s] w fun e w' => e = .returned (.tuple #[.slice none 0 0, .int .i64 p, .int .i64 x]) ∧ Below w.heap.size w w' :=
  (scan_any s w hs).mono fun e w' ⟨hb, hr⟩ => by
    rcases hr with ⟨us, v, h1, h2, h3, h4⟩ | ⟨q, y, h1, _, _, _, h2⟩
    · rw [h] at h1; cases h1
    · rw [h] at h1; cases h1; exact ⟨h2, hb⟩
theorem rscan_ok (s : ByteArray) (ts : List Tok) (w : World) (hs : s.size ≤ 9223372036854775807) (h : scanF s = .ok ts) :
    Calls Try.prog 12 #[.string s] w (TokRet ts w) :=
  (rscan_any s w hs).mono fun e w' ⟨hb, hr⟩ => by
    rcases hr with ⟨us, v, h1, h2, h3, h4⟩ | ⟨p, x, h1, _⟩
    · rw [h] at h1; cases h1; exact ⟨v, h3, toks_of_own h4, hb⟩
    · rw [h] at h1; cases h1
theorem rscan_err (s : ByteArray) (p x : Nat) (w : World) (hs : s.size ≤ 9223372036854775807) (h : scanF s = .error (p, x)) :
    Calls Try.prog 12 #[.string s] w fun e w' => e = .returned (.tuple #[.slice none 0 0, .int .i64 p, .int .i64 x]) ∧ Below w.heap.size w w' :=
  (rscan_any s w hs).mono fun e w' ⟨hb, hr⟩ => by
    rcases hr with ⟨us, v, h1, h2, h3, h4⟩ | ⟨q, y, h1, _, _, _, h2⟩
    · rw [h] at h1; cases h1
    · rw [h] at h1; cases h1; exact ⟨h2, hb⟩
theorem toks_nil (w : World) : Toks w (.slice none 0 0) [] := ⟨none, 0, rfl, by simp, by simp [maxLen], .inl rfl⟩
theorem scan_bd {s : ByteArray} {p x : Nat} (w : World) (hs : s.size ≤ 9223372036854775807) (h : scanF s = .error (p, x)) : p ≤ s.size ∧ 1 ≤ x ∧ x ≤ 5 := by
  obtain ⟨e, w', fr, hR, _⟩ := scan_any s w hs []
  rcases hR.2 with ⟨us, v, h1, h2, h3, h4⟩ | ⟨q, y, h1, h2, h3, h4, _⟩
  · rw [h] at h1; cases h1
  · rw [h] at h1; cases h1; exact ⟨h2, h3, h4⟩

set_option maxHeartbeats 1000000 in
theorem walk_LexerScans (s : ByteArray) (w : World) (hs : s.size ≤ maxLen) :
    Calls Try.prog 3 #[.string s] w fun e w' => e = .returned (.bool true) ∧ Below w.heap.size w w' := by
  unfold maxLen at hs
  by_cases h1 : 2000 < s.size
  · by_cases h2 : s.size ≤ 16384
    · go_enter Try.func3, Try.ntmps3
      go_wp2_with (go_at_call 10; refine (awake_any _).mono ?_; rintro e w' ⟨rfl, hb⟩)
      go_ret
      exact ⟨rfl, hb⟩
    · by_cases h3 : 16484 < s.size
      · go_enter Try.func3, Try.ntmps3
        go_wp2_with (go_at_call 10; refine (awake_any _).mono ?_; rintro e w' ⟨rfl, hb⟩)
        go_ret
        exact ⟨rfl, hb⟩
      · have H := Lib.hid (show scanF s = .error (0, 3) by unfold scanF; rw [if_pos (by omega)])
        go_enter Try.func3, Try.ntmps3
        go_wp2_with (first | (go_at_call 11; refine (scan_err s 0 3 _ hs H.out).mono ?_; rintro e w1 ⟨rfl, hb1⟩) | (go_at_call 12; refine (rscan_err s 0 3 _ hs H.out).mono ?_; rintro e w2 ⟨rfl, hb2⟩) | (go_at_call 10; refine (awake_any _).mono ?_; rintro e w3 ⟨rfl, hb3⟩) | (go_at_call 13; refine (rsame_any _ _ [] _ (by simp) (toks_nil _) (toks_nil _)).mono ?_; rintro e w4 ⟨rfl, hb4⟩))
        go_ret
        exact ⟨rfl, bthen (bthen (bthen hb1 hb2) hb3) hb4⟩
  · rcases hsc : scanF s with ⟨p, x⟩ | ts
    · have H := Lib.hid hsc
      clear hsc
      go_enter Try.func3, Try.ntmps3
      go_wp2_with (first | (go_at_call 11; refine (scan_err s p x _ hs H.out).mono ?_; rintro e w1 ⟨rfl, hb1⟩) | (go_at_call 12; refine (rscan_err s p x _ hs H.out).mono ?_; rintro e w2 ⟨rfl, hb2⟩) | (go_at_call 10; refine (awake_any _).mono ?_; rintro e w3 ⟨rfl, hb3⟩) | (go_at_call 13; refine (rsame_any _ _ [] _ (by simp) (toks_nil _) (toks_nil _)).mono ?_; rintro e w4 ⟨rfl, hb4⟩))
      go_ret
      exact ⟨by simp, bthen (bthen (bthen hb1 hb2) hb3) hb4⟩
    · have H := Lib.hid hsc
      have hl := scanF_len hsc
      clear hsc
      go_enter Try.func3, Try.ntmps3
      go_wp2_with (first | (go_at_call 11; refine (scan_ok s ts _ hs H.out).mono ?_; rintro e w1 ⟨v1, rfl, ht1, hb1⟩) | (go_at_call 12; refine (rscan_ok s ts _ hs H.out).mono ?_; rintro e w2 ⟨v2, rfl, ht2, hb2⟩) | (go_at_call 10; refine (awake_any _).mono ?_; rintro e w3 ⟨rfl, hb3⟩) | (go_at_call 13; refine (rsame_any _ _ ts _ hl (ht1.below (bthen hb2 hb3)) (ht2.below hb3)).mono ?_; rintro e w4 ⟨rfl, hb4⟩))
      go_ret
      exact ⟨rfl, bthen (bthen (bthen hb1 hb2) hb3) hb4⟩
end Go.Proofs.Ytcaliinineajkaa
