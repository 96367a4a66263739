/- Plain facts about the scan on lists of bytes: prefixes, what follows a token, the chain of tokens in a text. No program. -/
import Derived.Test.YtcaliinineajkaaLexMath
import Derived.Lib.Strings
namespace Go.Proofs.Ytcaliinineajkaa
open Go.RowKit

theorem skip_take (r : List UInt8) : ∀ (b : Bool) (m : Nat), skipL b (r.take m) = min m (skipL b r) := by
  induction r with
  | nil => intro b m; cases b <;> simp [skipL]
  | cons c r ih =>
    intro b m
    cases m with
    | zero => cases b <;> simp [skipL]
    | succ m =>
      rw [List.take_succ_cons]
      have h1 := ih true m
      have h2 := ih false m
      cases b <;> simp only [skipL] <;> (repeat' split) <;> omega
theorem skip_app (r x : List UInt8) : ∀ b : Bool, skipL b r < r.length → skipL b (r ++ x) = skipL b r := by
  induction r with
  | nil => intro b h; simp at h
  | cons c r ih =>
    intro b h
    simp only [List.length_cons] at h
    have h1 := ih true
    have h2 := ih false
    cases b <;> simp only [skipL, List.cons_append] at * <;> (repeat' split) <;> simp_all <;> omega
theorem skip_drop (r : List UInt8) : ∀ b : Bool, r.drop (skipL b r) ≠ [] → skipL false (r.drop (skipL b r)) = 0 := by
  induction r with
  | nil => intro b h; simp at h
  | cons c r ih =>
    intro b h
    cases b
    · simp only [skipL] at *
      split at h
      · rename_i hc; rw [if_pos hc, Nat.add_comm, List.drop_succ_cons] at *; exact ih false h
      · rename_i hc
        rw [if_neg hc]
        split at h
        · rename_i h35; rw [if_pos h35, Nat.add_comm, List.drop_succ_cons] at *; exact ih true h
        · rename_i h35; rw [if_neg h35, List.drop_zero]; simp [skipL, hc, h35]
    · simp only [skipL] at *
      split at h
      · rename_i hc; rw [if_pos hc, Nat.add_comm, List.drop_succ_cons] at *; exact ih false h
      · rename_i hc; rw [if_neg hc, Nat.add_comm, List.drop_succ_cons] at *; exact ih true h

/-- A byte at which blanks or a comment begin. -/
def blankB (c : UInt8) : Bool := c == 32 || c == 9 || c == 10 || c == 13 || c == 35
theorem blankB_cases {c : UInt8} (h : blankB c = true) : c = 32 ∨ c = 9 ∨ c = 10 ∨ c = 13 ∨ c = 35 := by simpa [blankB, or_assoc] using h
theorem blank_word {c : UInt8} (h : blankB c = true) : wordB c = false ∧ digitB c = false ∧ letterB c = false := by
  rcases blankB_cases h with rfl | rfl | rfl | rfl | rfl <;> decide
theorem blank_sign {c : UInt8} (h : blankB c = true) (a : UInt8) : sign2B a c = false := by
  rcases blankB_cases h with rfl | rfl | rfl | rfl | rfl <;> simp [sign2B]
theorem skip_blank {c : UInt8} (h : blankB c = true) (x : List UInt8) : 0 < skipL false (c :: x) := by
  rcases blankB_cases h with rfl | rfl | rfl | rfl | rfl <;> simp [skipL] <;> omega
theorem skip_zero {c : UInt8} {x : List UInt8} (h : skipL false (c :: x) = 0) : ∀ y, skipL false (c :: y) = 0 := by
  intro y
  simp only [skipL] at *
  repeat' split at h
  · omega
  · omega
  · rename_i h1 h2; rw [if_neg h1, if_neg h2]

theorem run_app (p : UInt8 → Bool) (r x : List UInt8) (c : UInt8) (h : p c = false) : runL p (r ++ c :: x) = runL p r := by
  induction r with
  | nil => simp [runL, h]
  | cons a r ih => simp only [List.cons_append, runL]; split <;> omega
theorem run_take (p : UInt8 → Bool) (r : List UInt8) : ∀ m, runL p (r.take m) = min m (runL p r) := by
  induction r with
  | nil => intro m; simp [runL]
  | cons a r ih =>
    intro m
    cases m with
    | zero => simp [runL]
    | succ m =>
      have := ih m
      rw [List.take_succ_cons]; simp only [runL]; split <;> omega
theorem sign_app (r x : List UInt8) (c : UInt8) (h : blankB c = true) (hr : r ≠ []) : signL (r ++ c :: x) = signL r := by
  match r with
  | [] => exact absurd rfl hr
  | [a] => simp [signL, blank_sign h a]
  | a :: b :: r => rfl
theorem sign_take (r : List UInt8) (m : Nat) (h0 : 1 ≤ signL r) (h : signL r ≤ m) : signL (r.take m) = signL r := by
  match r with
  | [] => simp [signL] at h0
  | [a] => rw [List.take_of_length_le]; simp only [List.length_cons, List.length_nil]; omega
  | a :: b :: r =>
    match m with
    | 0 => omega
    | 1 =>
      simp only [signL, List.take_succ_cons, List.take_zero] at *
      by_cases h2 : sign2B a b = true
      · rw [if_pos h2] at h; omega
      · rw [if_neg h2] at *
    | m + 2 => simp only [List.take_succ_cons, signL]

theorem tok_app (r x : List UInt8) (c : UInt8) (h : blankB c = true) (hr : r ≠ []) : tokL (r ++ c :: x) = tokL r := by
  match r with
  | [] => exact absurd rfl hr
  | a :: r =>
    have h1 := run_app wordB (a :: r) x c (blank_word h).1
    have h2 := run_app digitB (a :: r) x c (blank_word h).2.1
    have h3 := sign_app (a :: r) x c h (by simp)
    rw [List.cons_append] at *
    have h4 : (a :: (r ++ c :: x)).take (runL digitB (a :: r)) = (a :: r).take (runL digitB (a :: r)) := by
      rw [← List.cons_append, List.take_append_of_le_length (runL_le _ _)]
    simp only [tokL, h1, h2, h3, h4]
theorem tok_take (r : List UInt8) (k n v m : Nat) (h : tokL r = .ok (k, n, v)) (hm : n ≤ m) : tokL (r.take m) = .ok (k, n, v) := by
  match r with
  | [] => simp [tokL] at h
  | a :: r =>
    have hb := tokL_bd h
    obtain ⟨m, rfl⟩ : ∃ q, m = q + 1 := ⟨m - 1, by omega⟩
    have h1 := run_take wordB (a :: r) (m + 1)
    have h2 := run_take digitB (a :: r) (m + 1)
    rw [List.take_succ_cons] at *
    simp only [tokL] at *
    by_cases hl : letterB a = true
    · rw [if_pos hl] at *
      by_cases h24 : 24 < runL wordB (a :: r)
      · rw [if_pos h24] at h; cases h
      · rw [if_neg h24] at h
        simp at h
        rw [if_neg (by omega), h1]; simp; omega
    · rw [if_neg hl] at *
      by_cases hd : digitB a = true
      · rw [if_pos hd] at *
        have hn : runL digitB (a :: r) = n := by
          generalize numRes ((a :: r).take (runL digitB (a :: r))) = q at h
          cases q <;> simp at h; exact h.2.1
        have e : runL digitB (a :: r.take m) = runL digitB (a :: r) := by omega
        have e2 : (a :: r.take m).take (runL digitB (a :: r)) = (a :: r).take (runL digitB (a :: r)) := by
          rw [← List.take_succ_cons, List.take_take, Nat.min_eq_left (by omega)]
        rw [e, e2]; exact h
      · rw [if_neg hd] at *
        by_cases h0 : signL (a :: r) = 0
        · rw [if_pos h0] at h; cases h
        · rw [if_neg h0] at h
          simp at h
          have h3 := sign_take (a :: r) (m + 1) (by omega) (by omega)
          rw [List.take_succ_cons] at h3
          rw [h3, if_neg h0]; simp; omega

/-- The tokens of a text from a place on, one behind the other. -/
def Good (s : ByteArray) : Nat → List Tok → Prop
  | p, [] => p ≤ s.size ∧ skipTo s false p = s.size
  | p, t :: ts => p ≤ s.size ∧ t.from_ = skipTo s false p ∧ t.from_ < s.size ∧ tokL (bytesFrom s t.from_) = .ok (t.kind, t.to - t.from_, t.num) ∧ t.from_ < t.to ∧ t.to ≤ s.size ∧ Good s t.to ts

theorem good_of_scan (s : ByteArray) (left : Nat) : ∀ (p : Nat) (ts : List Tok), p ≤ s.size → scanL left p (bytesFrom s p) = .ok ts → Good s p ts := by
  have base : ∀ (p : Nat), p ≤ s.size → bytesFrom s (skipTo s false p) = [] → Good s p [] := fun p hp h => by
    have h1 := (bytesFrom_nil_iff _ _).1 h
    have h2 := (skipTo_bd s false p hp).2
    exact ⟨hp, by omega⟩
  induction left with
  | zero =>
    intro p ts hp h
    rw [scanL, drop_skip] at h
    split at h
    · rename_i he; simp at h; subst h; exact base p hp he
    · cases h
  | succ left ih =>
    intro p ts hp h
    rw [scanL, drop_skip] at h
    split at h
    · rename_i he; simp at h; subst h; exact base p hp he
    · rename_i he
      rw [bytesFrom_nil_iff] at he
      generalize hq : tokL (bytesFrom s (skipTo s false p)) = q at h
      match q, hq with
      | .error e, _ => cases h
      | .ok (k, n, v), hq =>
        have hb := tokL_bd hq
        rw [bytesFrom_length] at hb
        simp only [bytesFrom_drop] at h
        rw [show p + skipL false (bytesFrom s p) = skipTo s false p from rfl] at h
        generalize hw : scanL left (skipTo s false p + n) (bytesFrom s (skipTo s false p + n)) = w at h
        cases w with
        | error e => cases h
        | ok us =>
          simp only [consTok] at h
          cases h
          refine ⟨hp, rfl, by show skipTo s false p < s.size; omega, ?_, by show skipTo s false p < skipTo s false p + n; omega, by show skipTo s false p + n ≤ s.size; omega, ih _ _ (by show skipTo s false p + n ≤ s.size; omega) hw⟩
          show tokL (bytesFrom s (skipTo s false p)) = .ok (k, skipTo s false p + n - skipTo s false p, v)
          rw [hq, Nat.add_sub_cancel_left]
theorem good_of (s : ByteArray) (ts : List Tok) (h : scanF s = .ok ts) : Good s 0 ts := by
  unfold scanF at h
  split at h
  · cases h
  · exact good_of_scan s 4096 0 ts (by omega) h
theorem Good.tail {s : ByteArray} {p : Nat} {t : Tok} {ts : List Tok} (h : Good s p (t :: ts)) : Good s t.to ts := h.2.2.2.2.2.2
theorem Good.len {s : ByteArray} : ∀ {ts : List Tok} {p : Nat}, Good s p ts → ts.length + p ≤ s.size := by
  intro ts
  induction ts with
  | nil => intro p h; have := h.1; simp; omega
  | cons t ts ih =>
    intro p h
    have h1 := ih h.tail
    obtain ⟨h2, h3, h4, _, h5, h6, _⟩ := h
    have := (skipTo_bd s false p h2).1
    simp; omega
theorem Good.mem {s : ByteArray} : ∀ {ts : List Tok} {p : Nat}, Good s p ts → ∀ t ∈ ts, t.from_ < s.size ∧ tokL (bytesFrom s t.from_) = .ok (t.kind, t.to - t.from_, t.num) ∧ t.from_ < t.to ∧ t.to ≤ s.size ∧ skipL false (bytesFrom s t.from_) = 0 := by
  intro ts
  induction ts with
  | nil => intro p _ t ht; cases ht
  | cons u ts ih =>
    intro p h t ht
    cases ht with
    | head =>
      obtain ⟨h2, h3, h4, h7, h5, h6, _⟩ := h
      refine ⟨h4, h7, h5, h6, ?_⟩
      rw [h3, ← drop_skip]
      refine skip_drop _ false ?_
      rw [drop_skip, ← h3]
      intro h8
      rw [bytesFrom_nil_iff] at h8; omega
    | tail _ ht => exact ih h.tail t ht

theorem bytes_extract (s : ByteArray) (a b : Nat) : bytesFrom (s.extract a b) 0 = (bytesFrom s a).take (b - a) := by
  unfold bytesFrom
  rw [List.drop_zero, Lib.extract_data]
theorem extract_size (s : ByteArray) (a b : Nat) (h : b ≤ s.size) : (s.extract a b).size = b - a := by
  rw [ByteArray.size_extract]; omega

/-- The bytes between two tokens have no tokens. -/
theorem between_none (s : ByteArray) (a b : Nat) (hs : s.size ≤ 16384) (h : b ≤ skipTo s false a) (hb : b ≤ s.size) : scanF (s.extract a b) = .ok [] := by
  unfold scanF
  rw [if_neg (by rw [extract_size _ _ _ hb]; omega), bytes_extract]
  have h1 : skipL false ((bytesFrom s a).take (b - a)) = b - a := by
    rw [skip_take]; unfold skipTo at h; omega
  rw [show (4096 : Nat) = 4095 + 1 from rfl, scanL, h1, if_pos]
  rw [List.drop_eq_nil_iff, List.length_take]; omega

/-- The bytes of a token, by themselves, are that token. -/
theorem token_alone (s : ByteArray) (t : Tok) (hs : s.size ≤ 16384) (h1 : t.from_ < s.size) (h2 : tokL (bytesFrom s t.from_) = .ok (t.kind, t.to - t.from_, t.num)) (h3 : t.from_ < t.to) (h4 : t.to ≤ s.size) (h5 : skipL false (bytesFrom s t.from_) = 0) :
    scanF (s.extract t.from_ t.to) = .ok [⟨t.kind, 0, t.to - t.from_, t.num⟩] := by
  unfold scanF
  rw [if_neg (by rw [extract_size _ _ _ h4]; omega), bytes_extract]
  have e1 : skipL false ((bytesFrom s t.from_).take (t.to - t.from_)) = 0 := by rw [skip_take, h5]; omega
  have e2 := tok_take _ _ _ _ (t.to - t.from_) h2 (Nat.le_refl _)
  have e3 : (bytesFrom s t.from_).take (t.to - t.from_) ≠ [] := by
    rw [Ne, List.take_eq_nil_iff, bytesFrom_nil_iff]; omega
  rw [show (4096 : Nat) = 4094 + 1 + 1 from rfl, scanL, e1, List.drop_zero, if_neg e3, e2]
  simp only [Nat.zero_add]
  have e4 : ((bytesFrom s t.from_).take (t.to - t.from_)).drop (t.to - t.from_) = [] := by
    rw [List.drop_eq_nil_iff, List.length_take]; omega
  rw [e4, scanL]
  rfl
theorem run_all (p : UInt8 → Bool) (r : List UInt8) : ∀ c ∈ r.take (runL p r), p c = true := by
  induction r with
  | nil => simp
  | cons x r ih =>
    intro c hc
    simp only [runL] at hc
    by_cases hx : p x = true
    · rw [if_pos hx, Nat.add_comm, List.take_succ_cons] at hc
      cases hc with
      | head => exact hx
      | tail _ h => exact ih c h
    · rw [if_neg hx] at hc; simp at hc
theorem tok_two {r : List UInt8} {k n v : Nat} (h : tokL r = .ok (k, n, v)) : (k = 2 ∧ numRes (r.take n) = some v ∧ ∀ c ∈ r.take n, digitB c = true) ∨ (k ≠ 2 ∧ v = 0) := by
  match r with
  | [] => simp [tokL] at h
  | a :: r =>
    simp only [tokL] at h
    by_cases hl : letterB a = true
    · rw [if_pos hl] at h
      split at h <;> simp at h
      right; omega
    · rw [if_neg hl] at h
      by_cases hd : digitB a = true
      · rw [if_pos hd] at h
        have hall := run_all digitB (a :: r)
        generalize hq : numRes ((a :: r).take (runL digitB (a :: r))) = q at h
        cases q with
        | none => simp at h
        | some u =>
          simp at h
          obtain ⟨h1, h2, h3⟩ := h
          subst h1 h2 h3
          exact .inl ⟨rfl, hq, hall⟩
      · rw [if_neg hd] at h
        split at h <;> simp at h
        right; omega
theorem numRes_some {ds : List UInt8} {v : Nat} (h : numRes ds = some v) (hd : ∀ c ∈ ds, digitB c = true) : ds.length ≤ 10 ∧ v = numL 0 ds := by
  refine ⟨?_, ?_⟩
  · rcases Nat.lt_or_ge 10 ds.length with h1 | h1
    · rw [numRes_long ds hd h1] at h; cases h
    · exact h1
  · unfold numRes at h
    split at h <;> simp at h
    exact h.symm
end Go.Proofs.Ytcaliinineajkaa
