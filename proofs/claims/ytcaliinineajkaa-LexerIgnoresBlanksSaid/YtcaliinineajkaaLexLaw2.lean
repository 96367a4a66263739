/- The walks over fair, value and the laws LexerLeavesBlanks and LexerTokensStandAlone. -/
import Derived.Test.YtcaliinineajkaaLexUse
import Derived.Test.YtcaliinineajkaaLexMath2
namespace Go.Proofs.Ytcaliinineajkaa
open Go.RowKit

set_option maxHeartbeats 1000000 in
theorem fair_yes (s : ByteArray) (ts : List Tok) (w : World) (hs : s.size ≤ 2000) (h : Hid (scanF s = .ok ts)) :
    Calls Try.prog 14 #[.string s] w fun e w' => e = .returned (.bool true) ∧ Below w.heap.size w w' := by
  go_enter Try.func14, Try.ntmps14
  go_wp2_with (go_at_call 12; refine (rscan_ok s ts _ (by omega) h.out).mono ?_; rintro e w2 ⟨v2, rfl, ht2, hb2⟩)
  go_ret
  exact ⟨rfl, hb2⟩
set_option maxHeartbeats 1000000 in
theorem fair_err (s : ByteArray) (p x : Nat) (w : World) (hs : s.size ≤ 9223372036854775807) (h : Hid (scanF s = .error (p, x))) :
    Calls Try.prog 14 #[.string s] w fun e w' => e = .returned (.bool false) ∧ Below w.heap.size w w' := by
  have hx := scan_bd w hs h.out
  have hx1 : ((x : Int) == 0) = false := by simp; omega
  clear hx
  by_cases h2 : s.size ≤ 2000
  all_goals
    go_enter Try.func14, Try.ntmps14
    go_wp2_with (go_at_call 12; refine (rscan_err s p x _ hs h.out).mono ?_; rintro e w2 ⟨rfl, hb2⟩)
    go_ret
    exact ⟨rfl, hb2⟩
set_option maxHeartbeats 1000000 in
theorem fair_long (s : ByteArray) (w : World) (hs : s.size ≤ 9223372036854775807) (h : 2000 < s.size) :
    Calls Try.prog 14 #[.string s] w fun e w' => e = .returned (.bool false) ∧ Below w.heap.size w w' := by
  rcases hsc : scanF s with ⟨p, x⟩ | ts
  · exact fair_err s p x w hs hsc
  · have H := Lib.hid hsc
    clear hsc
    go_enter Try.func14, Try.ntmps14
    go_wp2_with (go_at_call 12; refine (rscan_ok s ts _ hs H.out).mono ?_; rintro e w2 ⟨v2, rfl, ht2, hb2⟩)
    go_ret
    exact ⟨rfl, hb2⟩

set_option maxHeartbeats 1000000 in
theorem value_any (s : ByteArray) (w : World) (hs : s.size ≤ 10) (hd : Hid (∀ c ∈ bytesFrom s 0, digitB c = true)) :
    Calls Try.prog 15 #[.string s] w fun e w' => e = .returned (.int .i64 (numL 0 (bytesFrom s 0))) ∧ w = w' := by
  have hl : Hid _ := Lib.hid (bytesFrom_length s 0)
  go_enter Try.func15, Try.ntmps15
  go_wp2
  go_loop [3, 4] (fun v i => ∃ k n : Nat, k ≤ s.size ∧ i = .int .i64 k ∧ n ≤ 9999999999 ∧ v = .int .i64 n ∧ Hid (n = numL 0 ((bytesFrom s 0).take k))) (fun _ i => s.size - (intOf i).toNat)
  case atStart => exact ⟨0, 0, by omega, rfl, by omega, rfl, by rw [List.take_zero, numL_nil]; rfl⟩
  case round =>
    obtain ⟨k, n, hk, rfl, hn, rfl, hv⟩ := hrel
    by_cases hlt : k < s.size
    · have hb := digit_bd s[k] (hd.out _ (mem_bytes s k hlt))
      have hb1 := hb.1
      have hb2 := hb.2
      clear hb
      go_wp2
      have hdi := dig_int n s[k] hb1
      have hs1 := num_step s k hlt
      have hs2 := num_take_bd (bytesFrom s 0) (k + 1) hd.out (by rw [hl.out]; omega)
      rw [hs1, ← hv.out] at hs2
      exact ⟨⟨k + 1, dig n s[k], by omega, by go_num, hs2, by rw [hdi], by rw [hs1, ← hv.out]; rfl⟩, by simp [intOf]; omega⟩
    · go_wp2
      go_ret
      have h1 := hv.out
      rw [take_all _ _ (by omega)] at h1
      exact ⟨ret_int (by rw [h1]), rfl⟩

theorem walk_LexerLeavesBlanks_bad (s : ByteArray) (w : World)
    (hf : ∀ w, Calls Try.prog 14 #[.string s] w fun e w' => e = .returned (.bool false) ∧ Below w.heap.size w w') :
    Calls Try.prog 5 #[.string s] w fun e w' => e = .returned (.bool true) ∧ Below w.heap.size w w' := by
  have HF := Lib.hid hf
  clear hf
  go_enter Try.func5, Try.ntmps5
  go_wp2_with (first | (go_at_call 14; refine (HF.out _).mono ?_; rintro e w1 ⟨rfl, hb1⟩) | (go_at_call 10; refine (awake_any _).mono ?_; rintro e w3 ⟨rfl, hb3⟩))
  go_ret
  exact ⟨rfl, bthen hb1 hb3⟩

theorem walk_LexerTokensStandAlone_bad (s : ByteArray) (w : World)
    (hf : ∀ w, Calls Try.prog 14 #[.string s] w fun e w' => e = .returned (.bool false) ∧ Below w.heap.size w w') :
    Calls Try.prog 6 #[.string s] w fun e w' => e = .returned (.bool true) ∧ Below w.heap.size w w' := by
  have HF := Lib.hid hf
  clear hf
  go_enter Try.func6, Try.ntmps6
  go_wp2_with (first | (go_at_call 14; refine (HF.out _).mono ?_; rintro e w1 ⟨rfl, hb1⟩) | (go_at_call 10; refine (awake_any _).mono ?_; rintro e w3 ⟨rfl, hb3⟩))
  go_ret
  exact ⟨rfl, bthen hb1 hb3⟩

theorem toks_nil_shape {w : World} {v : Value} (h : Toks w v []) : ∃ a cap, v = .slice a 0 cap := by
  obtain ⟨a, cap, hv, _⟩ := h
  exact ⟨a, cap, hv⟩
theorem drop_at {ts : List Tok} {k : Nat} {t : Tok} (h : ts[k]? = some t) : ts.drop k = t :: ts.drop (k + 1) := by
  obtain ⟨h1, h2⟩ := List.getElem?_eq_some_iff.1 h
  rw [List.drop_eq_getElem_cons h1, h2]

set_option maxHeartbeats 4000000 in
set_option maxRecDepth 100000 in
theorem walk_LexerLeavesBlanks_ok (s : ByteArray) (ts : List Tok) (w : World) (hs : s.size ≤ 2000) (h : Hid (scanF s = .ok ts)) :
    Calls Try.prog 5 #[.string s] w fun e w' => e = .returned (.bool true) ∧ Below w.heap.size w w' := by
  have HG := Lib.hid (good_of s ts h.out)
  have hlen := HG.out.len
  go_enter Try.func5, Try.ntmps5
  go_wp2_with (first | (go_at_call 14; refine (fair_yes s ts _ hs h).mono ?_; rintro e w1 ⟨rfl, hb1⟩) | (go_at_call 11; refine (scan_ok s ts _ (by omega) h.out).mono ?_; rintro e w2 ⟨v, rfl, ht, hb2⟩))
  obtain ⟨a0, cap, rfl, hc1, hc2, hc3⟩ := ht
  unfold maxLen at hc2
  go_loopw [6, 7, 8, 9, 10, 11] (fun at_ i _ _ _ _ wr => ∃ k a : Nat, k ≤ ts.length ∧ a ≤ s.size ∧ i = .int .i64 k ∧ at_ = .int .i64 a ∧ Hid (Good s a (ts.drop k)) ∧ Below w2.heap.size w2 wr) (fun _ i _ _ _ _ _ => ts.length + 1 - (intOf i).toNat)
  case atStart => exact ⟨0, 0, by omega, by omega, rfl, rfl, HG, Below.refl _ _⟩
  case round =>
    obtain ⟨k, a, hk, ha, rfl, rfl, hg, hbel⟩ := hrel
    by_cases hlt : k < ts.length
    · rcases hc3 with rfl | ⟨g, o, rfl, hg0, hc⟩
      · simp at hlt
      obtain ⟨t, htk⟩ : ∃ t, ts[k]? = some t := ⟨ts[k], List.getElem?_eq_getElem hlt⟩
      obtain ⟨c0, c1, c2, c3⟩ := hc k t htk
      rw [← hbel.cell (p := ⟨g, _, none⟩) hg0] at c0 c1 c2 c3
      have hgd := hg.out
      rw [drop_at htk] at hgd
      obtain ⟨g1, g2, g3, g4, g5, g6, g7⟩ := hgd
      have hsk := (skipTo_bd s false a ha).1
      have HB := Lib.hid (between_none s a t.from_ (by omega) (by omega) (by omega))
      have hq : ((k : Int) == (ts.length : Int)) = false := by simp; omega
      have haf : a ≤ t.from_ := by omega
      have hx : (s.extract a t.from_).size ≤ 9223372036854775807 := by rw [extract_size _ _ _ (by omega)]; omega
      have HX := Lib.hid hc
      have HT := Lib.hid htk
      have H7 := Lib.hid g7
      have H4 := Lib.hid g4
      clear hc htk g7 g2 g4 hsk
      have hgw : g < wr.heap.size := Nat.lt_of_lt_of_le hg0 hbel.size
      have d1 : decide (t.to ≤ t.from_) = false := by simp; omega
      have d2 : decide (s.size < t.to) = false := by simp; omega
      rcases tok_two H4.out with ⟨hk2, hv, hdg⟩ | ⟨hk2, hv⟩
      · have hns := numRes_some hv hdg
        rw [← bytes_extract] at hdg hns
        have hz : (s.extract t.from_ t.to).size ≤ 10 := by have := hns.1; rw [bytesFrom_length] at this; omega
        have HD := Lib.hid hdg
        have HN := Lib.hid hns.2
        have hkk : ((t.kind : Int) == 2) = true := by simp; omega
        have hkk2 : ((t.kind : Int) != 2) = false := by simp; omega
        have hnn : ((numL 0 (bytesFrom (s.extract t.from_ t.to) 0) : Int) != (t.num : Int)) = false := by rw [← HN.out]; simp
        clear hk2 hv hdg hns
        go_wp2_with (first | (go_at_call 11; refine (scan_ok _ [] _ hx HB.out).mono ?_; rintro e w5 ⟨v5, rfl, ht5, hb5⟩; obtain ⟨sa, sc, rfl⟩ := toks_nil_shape ht5; rw [← hb5.cell (p := ⟨g, _, none⟩) hgw] at c0 c1 c2 c3) | (go_at_call 15; refine (value_any _ _ hz HD).mono ?_; rintro e w' ⟨rfl, rfl⟩))
        simp only [List.append_eq, List.cons_append, List.nil_append]
        go_quiet ((go_at_call 15; exact Calls.quiet_of_same ((value_any _ _ hz HD).mono fun e w' h => ⟨h.1, h.2.symm⟩)))
        go_wp2
        exact ⟨⟨k + 1, t.to, by omega, g6, by go_num, rfl, H7, below_drewN (hbel.trans (hb5.mono hbel.size)) _⟩, by simp [intOf]; omega⟩
      · have hvv : ((t.num : Int) != 0) = false := by simp; omega
        have hkk : ((t.kind : Int) == 2) = false := by simp; omega
        have hkk2 : ((t.kind : Int) != 2) = true := by simp; omega
        clear hk2 hv
        go_wp2_with (first | (go_at_call 11; refine (scan_ok _ [] _ hx HB.out).mono ?_; rintro e w5 ⟨v5, rfl, ht5, hb5⟩; obtain ⟨sa, sc, rfl⟩ := toks_nil_shape ht5; rw [← hb5.cell (p := ⟨g, _, none⟩) hgw] at c0 c1 c2 c3))
        simp only [List.append_eq, List.cons_append, List.nil_append]
        go_quiet (fail)
        go_wp2
        exact ⟨⟨k + 1, t.to, by omega, g6, by go_num, rfl, H7, below_drewN (hbel.trans (hb5.mono hbel.size)) _⟩, by simp [intOf]; omega⟩
    · obtain rfl : k = ts.length := by omega
      have hgd := hg.out
      rw [List.drop_length] at hgd
      have HB := Lib.hid (between_none s a s.size (by omega) (by have := hgd.2; omega) (by omega))
      have hx : (s.extract a s.size).size ≤ 9223372036854775807 := by rw [extract_size _ _ _ (by omega)]; omega
      clear hgd
      go_wp2_with (first | (go_at_call 11; refine (scan_ok _ [] _ hx HB.out).mono ?_; rintro e w5 ⟨v5, rfl, ht5, hb5⟩; obtain ⟨sa, sc, rfl⟩ := toks_nil_shape ht5) | (go_at_call 10; refine (awake_any _).mono ?_; rintro e w3 ⟨rfl, hb3⟩))
      go_ret
      exact ⟨rfl, bthen (bthen (bthen hb1 hb2) (hbel.trans (hb5.mono hbel.size))) hb3⟩

theorem walk_LexerLeavesBlanks (s : ByteArray) (w : World) (hs : s.size ≤ maxLen) :
    Calls Try.prog 5 #[.string s] w fun e w' => e = .returned (.bool true) ∧ Below w.heap.size w w' := by
  unfold maxLen at hs
  by_cases h2 : 2000 < s.size
  · exact walk_LexerLeavesBlanks_bad s w fun w => fair_long s w hs h2
  · rcases hsc : scanF s with ⟨p, x⟩ | ts
    · exact walk_LexerLeavesBlanks_bad s w fun w => fair_err s p x w hs hsc
    · exact walk_LexerLeavesBlanks_ok s ts w (by omega) hsc
end Go.Proofs.Ytcaliinineajkaa
