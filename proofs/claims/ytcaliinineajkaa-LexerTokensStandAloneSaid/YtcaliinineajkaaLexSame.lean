/- Lists of tokens in memory; the walk over the reference's Same at two equal lists; awake. -/
import Derived.Test.YtcaliinineajkaaLexWalk5
import Derived.Deep.QuietTactic
import Derived.BigQuiet
namespace Go.Proofs.Ytcaliinineajkaa
open Go.RowKit

/-- A slice that reads as these tokens. -/
def Toks (w : World) (v : Value) (ts : List Tok) : Prop :=
  ∃ a cap, v = .slice a ts.length cap ∧ ts.length ≤ cap ∧ cap ≤ maxLen ∧
    (ts = [] ∨ ∃ g o, a = some ⟨g, o, none⟩ ∧ g < w.heap.size ∧ ∀ i t, ts[i]? = some t →
      w.cell? ⟨g, o + i * 4, none⟩ = some (.int .i64 t.kind) ∧ w.cell? ⟨g, o + i * 4 + 1, none⟩ = some (.int .i64 t.from_) ∧
      w.cell? ⟨g, o + i * 4 + 2, none⟩ = some (.int .i64 t.to) ∧ w.cell? ⟨g, o + i * 4 + 3, none⟩ = some (.int .i64 t.num))

theorem Toks.below {w w' : World} {v : Value} {ts : List Tok} (h : Toks w v ts) (hb : Below w.heap.size w w') : Toks w' v ts := by
  obtain ⟨a, cap, hv, h1, h2, h3⟩ := h
  refine ⟨a, cap, hv, h1, h2, ?_⟩
  rcases h3 with h3 | ⟨g, o, ha, hg, hc⟩
  · exact .inl h3
  · refine .inr ⟨g, o, ha, Nat.lt_of_lt_of_le hg hb.size, fun i t ht => ?_⟩
    obtain ⟨c0, c1, c2, c3⟩ := hc i t ht
    exact ⟨(hb.cell (p := ⟨g, _, none⟩) hg).trans c0, (hb.cell (p := ⟨g, _, none⟩) hg).trans c1, (hb.cell (p := ⟨g, _, none⟩) hg).trans c2, (hb.cell (p := ⟨g, _, none⟩) hg).trans c3⟩

theorem tokCells_get (ts : List Tok) : ∀ (i : Nat) (t : Tok), ts[i]? = some t →
    (tokCells ts)[i * 4]? = some (.int .i64 t.kind) ∧ (tokCells ts)[i * 4 + 1]? = some (.int .i64 t.from_) ∧ (tokCells ts)[i * 4 + 2]? = some (.int .i64 t.to) ∧ (tokCells ts)[i * 4 + 3]? = some (.int .i64 t.num) := by
  induction ts with
  | nil => intro i t h; simp at h
  | cons x ts ih =>
    intro i t h
    have e : tokCells (x :: ts) = .int .i64 x.kind :: .int .i64 x.from_ :: .int .i64 x.to :: .int .i64 x.num :: tokCells ts := by simp [tokCells]
    rw [e]
    cases i with
    | zero => simp at h; subst h; simp
    | succ i =>
      have := ih i t (by simpa using h)
      rw [show (i + 1) * 4 = i * 4 + 1 + 1 + 1 + 1 by omega]
      simp only [List.getElem?_cons_succ]
      exact this

theorem toks_of_own {w : World} {B : Nat} {v : Value} {ts : List Tok} (h : w.ownsRow B 32 4 v ts.length (tokCells ts)) : Toks w v ts := by
  obtain ⟨h1, h2⟩ := h
  rcases h2 with ⟨rfl, h2⟩ | ⟨g, cap, cur, hv, hg, hh, hle, hcap, hcs, htk⟩
  · exact ⟨none, 0, by rw [h2], by omega, by simp [maxLen], .inl (List.length_eq_zero_iff.1 h2)⟩
  · refine ⟨some ⟨g, 0, none⟩, cap, hv, hle, hcap, .inr ⟨g, 0, rfl, ?_, fun i t ht => ?_⟩⟩
    · rcases Nat.lt_or_ge g w.heap.size with h | h
      · exact h
      · simp [Array.getElem?_eq_none h] at hh
    · have hcell : ∀ j u, (tokCells ts)[j]? = some u → w.cell? ⟨g, j, none⟩ = some u := by
        intro j u hu
        have hj : (cur.toList.take (ts.length * 4))[j]? = some u := by rw [htk]; exact hu
        rw [List.getElem?_take] at hj
        unfold World.cell?
        simp only [hh]
        split at hj
        · simpa using hj
        · cases hj
      obtain ⟨c0, c1, c2, c3⟩ := tokCells_get ts i t ht
      simp only [Nat.zero_add]
      exact ⟨hcell _ _ c0, hcell _ _ c1, hcell _ _ c2, hcell _ _ c3⟩

set_option maxHeartbeats 1000000 in
theorem rsame_any (u v : Value) (ts : List Tok) (w : World) (hts : ts.length ≤ 4096) (hu : Toks w u ts) (hv : Toks w v ts) :
    Calls Try.prog 13 #[u, v] w fun e w' => e = .returned (.bool true) ∧ Below w.heap.size w w' := by
  obtain ⟨a, cap, rfl, ha1, ha2, ha3⟩ := hu
  obtain ⟨b, cap', rfl, hb1, hb2, hb3⟩ := hv
  unfold maxLen at *
  have hne : ((ts.length : Int) != (ts.length : Int)) = false := by simp
  go_enter Try.func13, Try.ntmps13
  go_wp2
  go_loopw [5] (fun i wr => ∃ k : Nat, k ≤ ts.length ∧ i = .int .i64 k ∧ Below w.heap.size w wr) (fun i _ => ts.length - (intOf i).toNat)
  case atStart => exact ⟨0, by omega, rfl, Below.refl _ _⟩
  case round =>
    obtain ⟨k, hk, rfl, hbel⟩ := hrel
    by_cases hlt : k < ts.length
    · rcases ha3 with rfl | ⟨g, o, rfl, hg, hc⟩
      · simp at hlt
      rcases hb3 with rfl | ⟨g', o', rfl, hg', hc'⟩
      · simp at hlt
      obtain ⟨t, ht⟩ : ∃ t, ts[k]? = some t := ⟨ts[k], List.getElem?_eq_getElem hlt⟩
      obtain ⟨c0, c1, c2, c3⟩ := hc k t ht
      obtain ⟨d0, d1, d2, d3⟩ := hc' k t ht
      rw [← hbel.cell (p := ⟨g, _, none⟩) hg] at c0 c1 c2 c3
      rw [← hbel.cell (p := ⟨g', _, none⟩) hg'] at d0 d1 d2 d3
      have HX := Lib.hid hc
      have HY := Lib.hid hc'
      have HT := Lib.hid ht
      clear hc hc' ht
      go_wp2
      go_quiet (fail)
      go_wp2
      exact ⟨⟨k + 1, by omega, by go_num, below_drewN hbel _⟩, by simp [intOf]; omega⟩
    · go_wp2
      go_ret
      exact ⟨rfl, hbel⟩

theorem scan_awake : scanF { data := #[100, 58, 61, 113, 46, 100, 43, 49] } = .ok [⟨1, 0, 1, 0⟩, ⟨3, 1, 3, 0⟩, ⟨1, 3, 4, 0⟩, ⟨3, 4, 5, 0⟩, ⟨1, 5, 6, 0⟩, ⟨3, 6, 7, 0⟩, ⟨2, 7, 8, 1⟩] := by kernel_rfl

set_option maxHeartbeats 1000000 in
theorem awake_any (w : World) : Calls Try.prog 10 #[] w fun e w' => e = .returned (.bool true) ∧ Below w.heap.size w w' := by
  go_enter Try.func10, Try.ntmps10
  go_wp2_with (go_at_call 11; refine (scan_any _ _ (by decide)).mono ?_)
  rintro e w1 ⟨hb, h⟩
  obtain ⟨ts, v, hsc, hl, rfl, hown⟩ := h.resolve_right (fun ⟨p, x, hsc, _⟩ => by rw [scan_awake] at hsc; cases hsc)
  rw [scan_awake] at hsc
  cases hsc
  obtain ⟨a, cap, rfl, h1, h2, h3⟩ := toks_of_own hown
  rcases h3 with h3 | ⟨g, o, rfl, hg, hc⟩
  · cases h3
  obtain ⟨c0, c1, c2, c3⟩ := hc 1 _ rfl
  obtain ⟨d0, d1, d2, d3⟩ := hc 6 _ rfl
  clear hc hown
  simp at *
  go_wp2
  go_ret
  exact ⟨rfl, hb⟩
end Go.Proofs.Ytcaliinineajkaa
