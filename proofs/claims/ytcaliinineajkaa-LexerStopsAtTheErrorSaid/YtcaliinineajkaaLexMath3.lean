/- Plain facts about the scan of a longer and of a shorter text. No program. -/
import Derived.Test.YtcaliinineajkaaLexMath2
namespace Go.Proofs.Ytcaliinineajkaa
open Go.RowKit

theorem drop_ne {r : List UInt8} {k : Nat} (h : r.drop k ≠ []) : k < r.length := by
  rcases Nat.lt_or_ge k r.length with h1 | h1
  · exact h1
  · exact absurd (List.drop_eq_nil_of_le h1) h

/-- The head of a scan is the same in a longer text, where a blank follows. -/
theorem scan_head (r x : List UInt8) (c : UInt8) (hc : blankB c = true) (h : r.drop (skipL false r) ≠ []) :
    skipL false (r ++ c :: x) = skipL false r ∧ (r ++ c :: x).drop (skipL false r) = r.drop (skipL false r) ++ c :: x ∧ (r.drop (skipL false r) ++ c :: x) ≠ [] ∧ tokL (r.drop (skipL false r) ++ c :: x) = tokL (r.drop (skipL false r)) := by
  have h1 := drop_ne h
  refine ⟨skip_app _ _ _ h1, ?_, by simp, tok_app _ _ _ hc h⟩
  rw [List.drop_append_of_le_length (by omega)]

theorem scan_more (c : UInt8) (hc : blankB c = true) (x : List UInt8) (left : Nat) : ∀ (p : Nat) (r : List UInt8) (ts : List Tok), scanL left p r = .ok ts →
    (∃ e, scanL left p (r ++ c :: x) = .error e) ∨ ∃ us, scanL left p (r ++ c :: x) = .ok (ts ++ us) := by
  have either : ∀ (left p : Nat) (r : List UInt8), (∃ e, scanL left p r = .error e) ∨ ∃ us, scanL left p r = .ok ([] ++ us) := fun left p r => by
    cases h : scanL left p r with
    | error e => exact .inl ⟨e, rfl⟩
    | ok us => exact .inr ⟨us, rfl⟩
  induction left with
  | zero =>
    intro p r ts h
    rw [scanL] at h
    split at h
    · simp at h; subst h; exact either _ _ _
    · cases h
  | succ left ih =>
    intro p r ts h
    rw [scanL] at h
    split at h
    · simp at h; subst h; exact either _ _ _
    · rename_i hne
      obtain ⟨e1, e2, e3, e4⟩ := scan_head r x c hc hne
      generalize hq : tokL (r.drop (skipL false r)) = q at h e4
      match q, hq with
      | .error e, _ => cases h
      | .ok (k, n, v), hq =>
        have hb := tokL_bd hq
        simp only at h
        generalize hw : scanL left (p + skipL false r + n) ((r.drop (skipL false r)).drop n) = w at h
        cases w with
        | error e => cases h
        | ok us =>
          simp only [consTok] at h
          cases h
          rw [scanL, e1, e2, if_neg e3, e4]
          simp only
          rw [List.drop_append_of_le_length (by omega)]
          rcases ih _ _ _ hw with ⟨e, he⟩ | ⟨vs, hv⟩
          · exact .inl ⟨e, by rw [he]; rfl⟩
          · exact .inr ⟨vs, by rw [hv]; rfl⟩

theorem scan_err_app (c : UInt8) (hc : blankB c = true) (x : List UInt8) (left : Nat) : ∀ (p : Nat) (r : List UInt8) (e : Nat × Nat), scanL left p r = .error e → scanL left p (r ++ c :: x) = .error e := by
  induction left with
  | zero =>
    intro p r e h
    rw [scanL] at h
    split at h
    · cases h
    · rename_i hne
      obtain ⟨e1, e2, e3, e4⟩ := scan_head r x c hc hne
      rw [scanL, e1, e2, if_neg e3]; exact h
  | succ left ih =>
    intro p r e h
    rw [scanL] at h
    split at h
    · cases h
    · rename_i hne
      obtain ⟨e1, e2, e3, e4⟩ := scan_head r x c hc hne
      generalize hq : tokL (r.drop (skipL false r)) = q at h e4
      match q, hq with
      | .error y, _ => rw [scanL, e1, e2, if_neg e3, e4]; exact h
      | .ok (k, n, v), hq =>
        have hb := tokL_bd hq
        simp only at h
        generalize hw : scanL left (p + skipL false r + n) ((r.drop (skipL false r)).drop n) = w at h
        cases w with
        | ok us => cases h
        | error y =>
          simp only [consTok] at h
          cases h
          rw [scanL, e1, e2, if_neg e3, e4]
          simp only
          rw [List.drop_append_of_le_length (by omega), ih _ _ _ hw]
          rfl

theorem scan_err_take (left : Nat) : ∀ (p : Nat) (r : List UInt8) (q e : Nat), scanL left p r = .error (q, e) →
    p ≤ q ∧ q < p + r.length ∧ ∃ ts, scanL left p (r.take (q - p)) = .ok ts := by
  have stop : ∀ (left p : Nat) (r : List UInt8), r.drop (skipL false r) ≠ [] → p ≤ p + skipL false r ∧ p + skipL false r < p + r.length ∧ ∃ ts, scanL left p (r.take (p + skipL false r - p)) = .ok ts := fun left p r hne => by
    have h1 := drop_ne hne
    refine ⟨by omega, by omega, [], ?_⟩
    rw [Nat.add_sub_cancel_left]
    have h2 : (r.take (skipL false r)).drop (skipL false (r.take (skipL false r))) = [] := by
      rw [skip_take, List.drop_eq_nil_iff, List.length_take]; omega
    cases left <;> rw [scanL, if_pos h2]
  induction left with
  | zero =>
    intro p r q e h
    rw [scanL] at h
    split at h
    · cases h
    · rename_i hne; cases h; exact stop _ _ _ hne
  | succ left ih =>
    intro p r q e h
    rw [scanL] at h
    split at h
    · cases h
    · rename_i hne
      have h1 := drop_ne hne
      generalize hq : tokL (r.drop (skipL false r)) = y at h
      match y, hq with
      | .error y, _ => cases h; exact stop _ _ _ hne
      | .ok (k, n, v), hq =>
        have hb := tokL_bd hq
        simp only at h
        generalize hw : scanL left (p + skipL false r + n) ((r.drop (skipL false r)).drop n) = w at h
        cases w with
        | ok us => cases h
        | error y =>
          simp only [consTok] at h
          cases h
          obtain ⟨i1, i2, ts, i3⟩ := ih _ _ _ _ hw
          rw [List.length_drop] at i2 hb
          rw [List.length_drop] at i2
          refine ⟨by omega, by omega, ⟨k, p + skipL false r, p + skipL false r + n, v⟩ :: ts, ?_⟩
          have s1 : skipL false (r.take (q - p)) = skipL false r := by rw [skip_take]; omega
          have s2 : (r.take (q - p)).drop (skipL false r) = (r.drop (skipL false r)).take (q - p - skipL false r) := by rw [List.drop_take]
          have s3 := tok_take _ _ _ _ (q - p - skipL false r) hq (by omega)
          have s4 : (r.drop (skipL false r)).take (q - p - skipL false r) ≠ [] := by
            rw [Ne, List.take_eq_nil_iff]; intro h5; rcases h5 with h5 | h5
            · omega
            · exact hne h5
          rw [scanL, s1, s2, if_neg s4, s3]
          simp only
          rw [List.drop_take, show q - p - skipL false r - n = q - (p + skipL false r + n) by omega, i3]
          rfl

theorem bytes_append (a b : ByteArray) : bytesFrom (a ++ b) 0 = bytesFrom a 0 ++ bytesFrom b 0 := by
  unfold bytesFrom; simp [ByteArray.data_append]

/-- An error of a text of at most 16384 bytes: its place; the text before it is without error; a longer text has the same. -/
theorem scanF_err {s : ByteArray} {q e : Nat} (hs : s.size ≤ 16384) (h : scanF s = .error (q, e)) : q < s.size ∧ ∃ ts, scanF (s.extract 0 q) = .ok ts := by
  unfold scanF at h
  rw [if_neg (by omega)] at h
  obtain ⟨h1, h2, ts, h3⟩ := scan_err_take _ _ _ _ _ h
  rw [bytesFrom_length] at h2
  refine ⟨by omega, ts, ?_⟩
  unfold scanF
  rw [if_neg (by rw [extract_size _ _ _ (by omega)]; omega), bytes_extract]
  exact h3
theorem scanF_err_app {s x : ByteArray} {q e : Nat} {c : UInt8} {r : List UInt8} (hx : bytesFrom x 0 = c :: r) (hc : blankB c = true) (hs : (s ++ x).size ≤ 16384) (h : scanF s = .error (q, e)) : scanF (s ++ x) = .error (q, e) := by
  unfold scanF at h
  have := ByteArray.size_append (a := s) (b := x)
  rw [if_neg (by omega)] at h
  unfold scanF
  rw [if_neg (by omega), bytes_append, hx]
  exact scan_err_app c hc r _ _ _ _ h
theorem scanF_more {s x : ByteArray} {ts : List Tok} {c : UInt8} {r : List UInt8} (hx : bytesFrom x 0 = c :: r) (hc : blankB c = true) (hs : (s ++ x).size ≤ 16384) (h : scanF s = .ok ts) :
    (∃ e, scanF (s ++ x) = .error e) ∨ ∃ us, scanF (s ++ x) = .ok (ts ++ us) := by
  unfold scanF at h
  have := ByteArray.size_append (a := s) (b := x)
  rw [if_neg (by omega)] at h
  unfold scanF
  rw [if_neg (by omega), bytes_append, hx]
  exact scan_more c hc r _ _ _ _ h
end Go.Proofs.Ytcaliinineajkaa
