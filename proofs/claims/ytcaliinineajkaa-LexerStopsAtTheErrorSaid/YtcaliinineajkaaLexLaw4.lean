/- The walk over the law LexerStopsAtTheError. -/
import Derived.Test.YtcaliinineajkaaLexUse
import Derived.Test.YtcaliinineajkaaLexMath3
namespace Go.Proofs.Ytcaliinineajkaa
open Go.RowKit

theorem ba_assoc (a b c : ByteArray) : a ++ b ++ c = a ++ (b ++ c) := by
  apply ByteArray.ext
  simp [ByteArray.data_append]
theorem bytes_lit (l : List UInt8) : bytesFrom ⟨l.toArray⟩ 0 = l := rfl
theorem toks_prefix {w : World} {a : Option Addr} {cap : Nat} {ts us : List Tok} (h : Toks w (.slice a (ts ++ us).length cap) (ts ++ us)) : Toks w (.slice a ts.length cap) ts := by
  obtain ⟨a', cap', hv, h1, h2, h3⟩ := h
  cases hv
  rw [List.length_append] at h1
  refine ⟨a, cap, rfl, by omega, h2, ?_⟩
  rcases h3 with h3 | ⟨g, o, ha, hg, hc⟩
  · exact .inl (List.append_eq_nil_iff.1 h3).1
  · refine .inr ⟨g, o, ha, hg, fun i t ht => hc i t ?_⟩
    rw [List.getElem?_append_left (List.getElem?_eq_some_iff.1 ht).1]; exact ht

/-- A scan that returns tokens, with the slice's shape. -/
theorem scan_ok' (s : ByteArray) (ts : List Tok) (w : World) (hs : s.size ≤ 9223372036854775807) (h : scanF s = .ok ts) :
    Calls Try.prog 11 #[.string s] w fun e w' => ∃ a cap, e = .returned (.tuple #[.slice a ts.length cap, .int .i64 0, .int .i64 0]) ∧ ts.length ≤ cap ∧ cap ≤ 9223372036854775807 ∧ (a = none ∧ cap = 0 ∨ ∃ g, a = some ⟨g, 0, none⟩) ∧ Toks w' (.slice a ts.length cap) ts ∧ Below w.heap.size w w' :=
  (scan_any s w hs).mono fun e w' ⟨hb, hr⟩ => by
    rcases hr with ⟨us, v, h1, h2, h3, h4⟩ | ⟨p, x, h1, _⟩
    · rw [h] at h1
      cases h1
      have ht := toks_of_own h4
      rcases h4.2 with ⟨rfl, h5⟩ | ⟨g, cap, cur, rfl, hg, hh, hle, hcap, hcs, htk⟩
      · refine ⟨none, 0, by rw [h5]; exact h3, by omega, by omega, .inl ⟨rfl, rfl⟩, ?_, hb⟩
        rw [h5]; exact ht
      · unfold maxLen at hcap
        exact ⟨_, cap, h3, hle, by omega, .inr ⟨g, rfl⟩, ht, hb⟩
    · rw [h] at h1; cases h1

set_option maxHeartbeats 1000000 in
theorem stops_long (s m : ByteArray) (w : World) (h : 2000 < s.size ∨ (s.size ≤ 2000 ∧ 200 < m.size)) :
    Calls Try.prog 8 #[.string s, .string m] w fun e w' => e = .returned (.bool true) ∧ Below w.heap.size w w' := by
  rcases h with h | ⟨h, h'⟩
  all_goals
    go_enter Try.func8, Try.ntmps8
    go_wp2_with (go_at_call 10; refine (awake_any _).mono ?_; rintro e w' ⟨rfl, hb⟩)
    go_ret
    exact ⟨rfl, hb⟩

set_option maxHeartbeats 1000000 in
theorem stops_err (s m : ByteArray) (q x : Nat) (w : World) (hs : s.size ≤ 2000) (hm : m.size ≤ 200) (h : Hid (scanF s = .error (q, x))) :
    Calls Try.prog 8 #[.string s, .string m] w fun e w' => e = .returned (.bool true) ∧ Below w.heap.size w w' := by
  have hx := scan_bd w (by omega) h.out
  have hx1 : ((x : Int) == 0) = false := by simp; omega
  obtain ⟨hq, ts, hts⟩ := scanF_err (by omega) h.out
  have HT := Lib.hid hts
  have hz : (s ++ { data := #[32] } ++ m).size = s.size + 1 + m.size := by rw [ByteArray.size_append, ByteArray.size_append]; rfl
  have HE : Hid (scanF (s ++ { data := #[32] } ++ m) = .error (q, x)) := by
    rw [ba_assoc] at *
    exact scanF_err_app (c := 32) (r := bytesFrom m 0) (by rw [bytes_append]; rfl) (by decide) (by omega) h.out
  have hz2 : (s ++ { data := #[32] } ++ m).size ≤ 9223372036854775807 := by omega
  have hz3 : (s.extract 0 q).size ≤ 9223372036854775807 := by rw [extract_size _ _ _ (by omega)]; omega
  have hxx : ((x : Int) == (x : Int)) = true := by simp
  have hqq : ((q : Int) == (q : Int)) = true := by simp
  clear hts hz hx
  go_enter Try.func8, Try.ntmps8
  go_wp2_with fail
  refine (scan_err s q x _ (by omega) h.out).mono ?_
  rintro e w1 ⟨rfl, hb1⟩
  go_wp2_with fail
  refine (scan_ok _ ts _ hz3 HT.out).mono ?_
  rintro e w2 ⟨v, rfl, ht, hb2⟩
  go_wp2_with fail
  refine (scan_err _ q x _ hz2 HE.out).mono ?_
  rintro e w3 ⟨rfl, hb3⟩
  go_wp2_with (go_at_call 10; refine (awake_any _).mono ?_; rintro e w4 ⟨rfl, hb4⟩)
  go_ret
  exact ⟨rfl, bthen (bthen (bthen hb1 hb2) hb3) hb4⟩

set_option maxHeartbeats 1000000 in
theorem stops_ok (s m : ByteArray) (ts : List Tok) (w : World) (hs : s.size ≤ 2000) (hm : m.size ≤ 200) (h : Hid (scanF s = .ok ts)) :
    Calls Try.prog 8 #[.string s, .string m] w fun e w' => e = .returned (.bool true) ∧ Below w.heap.size w w' := by
  have hl := scanF_len h.out
  have hz : (s ++ { data := #[32, 10] } ++ m).size = s.size + 2 + m.size := by rw [ByteArray.size_append, ByteArray.size_append]; rfl
  have hz2 : (s ++ { data := #[32, 10] } ++ m).size ≤ 9223372036854775807 := by omega
  have HM : (∃ e, scanF (s ++ { data := #[32, 10] } ++ m) = .error e) ∨ ∃ us, scanF (s ++ { data := #[32, 10] } ++ m) = .ok (ts ++ us) := by
    rw [ba_assoc] at *
    exact scanF_more (c := 32) (r := 10 :: bytesFrom m 0) (by rw [bytes_append]; rfl) (by decide) (by omega) h.out
  clear hz
  rcases HM with ⟨⟨q, x⟩, he⟩ | ⟨us, he⟩
  · have HE := Lib.hid he
    have hx := scan_bd w hz2 he
    have hx1 : ((x : Int) != 0) = true := by simp; omega
    clear he hx
    go_enter Try.func8, Try.ntmps8
    go_wp2_with fail
    refine (scan_ok s ts _ (by omega) h.out).mono ?_
    rintro e w1 ⟨v, rfl, ht, hb1⟩
    go_wp2_with fail
    refine (scan_err _ q x _ hz2 HE.out).mono ?_
    rintro e w2 ⟨rfl, hb2⟩
    go_wp2_with (go_at_call 10; refine (awake_any _).mono ?_; rintro e w4 ⟨rfl, hb4⟩)
    go_ret
    exact ⟨rfl, bthen (bthen hb1 hb2) hb4⟩
  · have HE := Lib.hid he
    have hl2 := scanF_len he
    have hle : ts.length ≤ (ts ++ us).length := by rw [List.length_append]; omega
    have hlen2 : (ts ++ us).length ≤ 4096 := hl2
    clear he hl2
    go_enter Try.func8, Try.ntmps8
    go_wp2_with fail
    refine (scan_ok' s ts _ (by omega) h.out).mono ?_
    rintro e w1 ⟨a1, cap1, rfl, hc1, hd1, -, ht1, hb1⟩
    go_wp2_with fail
    refine (scan_ok' _ (ts ++ us) _ hz2 HE.out).mono ?_
    rintro e w2 ⟨a2, cap2, rfl, hc2, hd2, hs2, ht2, hb2⟩
    have ht3 := toks_prefix ht2
    generalize (ts ++ us).length = n at *
    rcases hs2 with ⟨rfl, rfl⟩ | ⟨g, rfl⟩
    · obtain rfl : n = 0 := by omega
      have hts : ts = [] := List.length_eq_zero_iff.1 (by omega)
      subst hts
      simp only [List.length_nil] at *
      go_wp2_with (first | (go_at_call 10; refine (awake_any _).mono ?_; rintro e w4 ⟨rfl, hb4⟩) | (go_at_call 13; refine (rsame_any _ _ [] _ hl (ht3.below hb4) (ht1.below (bthen hb2 hb4))).mono ?_; rintro e w5 ⟨rfl, hb5⟩))
      go_ret
      exact ⟨rfl, bthen (bthen (bthen hb1 hb2) hb4) hb5⟩
    · go_wp2_with (first | (go_at_call 10; refine (awake_any _).mono ?_; rintro e w4 ⟨rfl, hb4⟩) | (go_at_call 13; refine (rsame_any _ _ ts _ hl (ht3.below hb4) (ht1.below (bthen hb2 hb4))).mono ?_; rintro e w5 ⟨rfl, hb5⟩))
      go_ret
      exact ⟨rfl, bthen (bthen (bthen hb1 hb2) hb4) hb5⟩

theorem walk_LexerStopsAtTheError (s m : ByteArray) (w : World) (_hs : s.size ≤ maxLen) (_hm : m.size ≤ maxLen) :
    Calls Try.prog 8 #[.string s, .string m] w fun e w' => e = .returned (.bool true) ∧ Below w.heap.size w w' := by
  by_cases h : 2000 < s.size ∨ (s.size ≤ 2000 ∧ 200 < m.size)
  · exact stops_long s m w h
  · rcases hsc : scanF s with ⟨p, x⟩ | ts
    · exact stops_err s m p x w (by omega) (by omega) hsc
    · exact stops_ok s m ts w (by omega) (by omega) hsc
end Go.Proofs.Ytcaliinineajkaa
