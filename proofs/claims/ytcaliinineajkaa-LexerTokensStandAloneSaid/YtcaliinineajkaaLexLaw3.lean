/- The walk over the law LexerTokensStandAlone. -/
import Derived.Test.YtcaliinineajkaaLexLaw2
import Derived.Deep.RegionHeld3
import Derived.IntWalk
namespace Go.Proofs.Ytcaliinineajkaa
open Go.RowKit

/-- A slice of one token. -/
theorem toks_one {w : World} {v : Value} {x : Tok} (h : Toks w v [x]) : ∃ g o cap, v = .slice (some ⟨g, o, none⟩) 1 cap ∧ 1 ≤ cap ∧ cap ≤ 9223372036854775807 ∧ g < w.heap.size ∧
    w.cell? ⟨g, o, none⟩ = some (.int .i64 x.kind) ∧ w.cell? ⟨g, o + 1, none⟩ = some (.int .i64 x.from_) ∧ w.cell? ⟨g, o + 2, none⟩ = some (.int .i64 x.to) ∧ w.cell? ⟨g, o + 3, none⟩ = some (.int .i64 x.num) := by
  obtain ⟨a, cap, rfl, h1, h2, h3⟩ := h
  rcases h3 with h3 | ⟨g, o, rfl, hg, hc⟩
  · cases h3
  · have := hc 0 x rfl
    unfold maxLen at h2
    simp only [Nat.zero_mul, Nat.add_zero] at this
    exact ⟨g, o, cap, rfl, h1, by omega, hg, this⟩

set_option maxHeartbeats 4000000 in
set_option maxRecDepth 100000 in
theorem walk_LexerTokensStandAlone_ok (s : ByteArray) (ts : List Tok) (w : World) (hs : s.size ≤ 2000) (h : Hid (scanF s = .ok ts)) :
    Calls Try.prog 6 #[.string s] w fun e w' => e = .returned (.bool true) ∧ Below w.heap.size w w' := by
  have HG := Lib.hid (good_of s ts h.out)
  have hlen := HG.out.len
  go_enter Try.func6, Try.ntmps6
  go_wp2_with (first | (go_at_call 14; refine (fair_yes s ts _ hs h).mono ?_; rintro e w1 ⟨rfl, hb1⟩) | (go_at_call 11; refine (scan_ok s ts _ (by omega) h.out).mono ?_; rintro e w2 ⟨v, rfl, ht, hb2⟩))
  obtain ⟨a0, cap, rfl, hc1, hc2, hc3⟩ := ht
  unfold maxLen at hc2
  go_loopw [6, 7, 8, 9] (fun i _ _ _ wr => ∃ k : Nat, k ≤ ts.length ∧ i = .int .i64 k ∧ Below w2.heap.size w2 wr) (fun i _ _ _ _ => ts.length - (intOf i).toNat)
  case atStart => exact ⟨0, by omega, rfl, Below.refl _ _⟩
  case round =>
    obtain ⟨k, hk, rfl, hbel⟩ := hrel
    by_cases hlt : k < ts.length
    · rcases hc3 with rfl | ⟨g, o, rfl, hg0, hc⟩
      · simp at hlt
      obtain ⟨t, htk⟩ : ∃ t, ts[k]? = some t := ⟨ts[k], List.getElem?_eq_getElem hlt⟩
      obtain ⟨c0, c1, c2, c3⟩ := hc k t htk
      rw [← hbel.cell (p := ⟨g, _, none⟩) hg0] at c0 c1 c2 c3
      obtain ⟨g1, g2, g3, g4, g5⟩ := HG.out.mem t (List.mem_of_getElem? htk)
      have HB := Lib.hid (token_alone s t (by omega) g1 g2 g3 g4 g5)
      have hx : (s.extract t.from_ t.to).size ≤ 9223372036854775807 := by rw [extract_size _ _ _ (by omega)]; omega
      have HX := Lib.hid hc
      have HT := Lib.hid htk
      have H2 := Lib.hid g2
      have H5 := Lib.hid g5
      have hgw : g < wr.heap.size := Nat.lt_of_lt_of_le hg0 hbel.size
      have d1 : decide (t.to ≤ t.from_) = false := by simp; omega
      have d2 : decide (s.size < t.to) = false := by simp; omega
      have d3 : decide ((t.from_ : Int) < 0) = false := by simp
      have i1 : (0 : Int) ≤ (t.from_ : Int) := by omega
      have i2 : (t.from_ : Int) ≤ (t.to : Int) := by omega
      have i3 : (t.to : Int) ≤ (s.size : Int) := by omega
      have i4 : t.from_ ≤ t.to := by omega
      clear hc htk g2 g5
      go_wp2_with fail
      go_quiet (fail)
      go_wp2_with fail
      go_region_held3 (fun w' => w'.cell? ⟨g, o + k * 4, none⟩ = some (.int .i64 t.kind) ∧ w'.cell? ⟨g, o + k * 4 + 1, none⟩ = some (.int .i64 t.from_) ∧ w'.cell? ⟨g, o + k * 4 + 2, none⟩ = some (.int .i64 t.to) ∧ w'.cell? ⟨g, o + k * 4 + 3, none⟩ = some (.int .i64 t.num) ∧ g < w'.heap.size) (first | (refine ⟨?_, ?_, ?_, ?_, ?_⟩ <;> assumption) | go_keep)
        (first | (go_at_call 11; refine (scan_ok _ _ _ hx HB.out).mono ?_; rintro e w5 ⟨v5, rfl, ht5, hb5⟩; obtain ⟨g', o', cap', rfl, hd1, hd2, hd3, m0, m1, m2, m3⟩ := toks_one ht5; have e0 := (hb5.cell (p := ⟨g, o + k * 4, none⟩) hgw).trans c0; have e1 := (hb5.cell (p := ⟨g, o + k * 4 + 1, none⟩) hgw).trans c1; have e2 := (hb5.cell (p := ⟨g, o + k * 4 + 2, none⟩) hgw).trans c2; have e3 := (hb5.cell (p := ⟨g, o + k * 4 + 3, none⟩) hgw).trans c3; have hgw5 : g < w5.heap.size := Nat.lt_of_lt_of_le hgw hb5.size))
      rw [show ((t.to - t.from_ : Nat) : Int) = (t.to : Int) - (t.from_ : Int) by omega] at m2
      have hwrap : IntKind.i64.wrap ((t.to : Int) - (t.from_ : Int)) = (t.to : Int) - (t.from_ : Int) := IntWalk.i64_in _ (by omega)
      go_wp2_with fail
      go_quiet (fail)
      go_wp2
      exact ⟨⟨k + 1, by omega, by go_num, below_drewN ((below_drewN hbel _).trans (hb5.mono hbel.size)) _⟩, by simp [intOf]; omega⟩
    · go_wp2_with (go_at_call 10; refine (awake_any _).mono ?_; rintro e w3 ⟨rfl, hb3⟩)
      go_ret
      exact ⟨rfl, bthen (bthen (bthen hb1 hb2) hbel) hb3⟩

theorem walk_LexerTokensStandAlone (s : ByteArray) (w : World) (hs : s.size ≤ maxLen) :
    Calls Try.prog 6 #[.string s] w fun e w' => e = .returned (.bool true) ∧ Below w.heap.size w w' := by
  unfold maxLen at hs
  by_cases h2 : 2000 < s.size
  · exact walk_LexerTokensStandAlone_bad s w fun w => fair_long s w hs h2
  · rcases hsc : scanF s with ⟨p, x⟩ | ts
    · exact walk_LexerTokensStandAlone_bad s w fun w => fair_err s p x w hs hsc
    · exact walk_LexerTokensStandAlone_ok s ts w (by omega) hsc
end Go.Proofs.Ytcaliinineajkaa
