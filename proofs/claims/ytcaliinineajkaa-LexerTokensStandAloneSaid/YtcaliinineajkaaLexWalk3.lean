/- The walks over the lexer's next and the reference's token: the token at a place, or the error. -/
import Derived.Test.YtcaliinineajkaaLexWalk2
import Derived.Test.YtcaliinineajkaaLexMath2
namespace Go.Proofs.Ytcaliinineajkaa
open Go.RowKit

set_option maxHeartbeats 1000000 in
theorem while_word (s : ByteArray) (a : Nat) (pa pt : Addr) (w : World) (hs : s.size ≤ 20000) (ha : a ≤ s.size) (hpa : w.cell? pa = some (.int .i64 a)) (hpt : w.cell? pt = some (.string s)) :
    Calls Try.prog 29 #[.func (.func 26) #[] #[], .pointer (some pa), .pointer (some pt)] w fun e w' => e = .returned (.int .i64 (runTo wordB s a)) ∧ w = w' := by
  go_enter Try.func29, Try.ntmps29
  go_wp2
  go_loop [5] (fun i => ∃ k : Nat, k ≤ s.size ∧ i = .int .i64 k ∧ Hid (runTo wordB s a = runTo wordB s k)) (fun i => s.size - (intOf i).toNat)
  case atStart => exact ⟨a, ha, rfl, rfl⟩
  case round =>
    obtain ⟨k, hk, rfl, hk2⟩ := hrel
    by_cases hlt : k < s.size
    · go_wp2_with (go_at_call 26; refine (inWord_any _ _).mono ?_; rintro e w' ⟨rfl, rfl⟩)
      · exact ⟨⟨k + 1, by omega, by go_num, hk2.out.trans (runTo_yes _ s k hlt (by assumption))⟩, by simp [intOf]; omega⟩
      · go_ret
        rw [hk2.out, runTo_no _ s k hlt (by assumption)]
        exact ⟨rfl, rfl⟩
    · go_wp2
      go_ret
      rw [hk2.out, runTo_end _ _ _ (by omega)]
      exact ⟨rfl, rfl⟩
set_option maxHeartbeats 1000000 in
theorem while_digit (s : ByteArray) (a : Nat) (pa pt : Addr) (w : World) (hs : s.size ≤ 20000) (ha : a ≤ s.size) (hpa : w.cell? pa = some (.int .i64 a)) (hpt : w.cell? pt = some (.string s)) :
    Calls Try.prog 29 #[.func (.func 30) #[] #[], .pointer (some pa), .pointer (some pt)] w fun e w' => e = .returned (.int .i64 (runTo digitB s a)) ∧ w = w' := by
  go_enter Try.func29, Try.ntmps29
  go_wp2
  go_loop [5] (fun i => ∃ k : Nat, k ≤ s.size ∧ i = .int .i64 k ∧ Hid (runTo digitB s a = runTo digitB s k)) (fun i => s.size - (intOf i).toNat)
  case atStart => exact ⟨a, ha, rfl, rfl⟩
  case round =>
    obtain ⟨k, hk, rfl, hk2⟩ := hrel
    by_cases hlt : k < s.size
    · go_wp2_with (go_at_call 30; refine (digit_any _ _).mono ?_; rintro e w' ⟨rfl, rfl⟩)
      · exact ⟨⟨k + 1, by omega, by go_num, hk2.out.trans (runTo_yes _ s k hlt (by assumption))⟩, by simp [intOf]; omega⟩
      · go_ret
        rw [hk2.out, runTo_no _ s k hlt (by assumption)]
        exact ⟨rfl, rfl⟩
    · go_wp2
      go_ret
      rw [hk2.out, runTo_end _ _ _ (by omega)]
      exact ⟨rfl, rfl⟩

/-- What next and token return: the token at a place, or the error. -/
def NextRet (s : ByteArray) (a : Nat) (w : World) (e : Ending) (w' : World) : Prop :=
  Below w.heap.size w w' ∧
  ((∃ k n v : Nat, tokL (bytesFrom s a) = .ok (k, n, v) ∧ e = .returned (.tuple #[.agg #[.int .i64 k, .int .i64 a, .int .i64 ((a + n : Nat) : Int), .int .i64 v], .int .i64 0])) ∨
   (∃ x : Nat, tokL (bytesFrom s a) = .error x ∧ 1 ≤ x ∧ x ≤ 5 ∧ e = .returned (.tuple #[.agg #[.int .i64 0, .int .i64 0, .int .i64 0, .int .i64 0], .int .i64 x])))

theorem tok_word_bad (s : ByteArray) (a : Nat) (h : a < s.size) (hl : letterB s[a] = true) (h24 : 24 < runTo wordB s a - a) : tokL (bytesFrom s a) = .error 5 := by
  unfold runTo at h24
  rw [bytesFrom_lt s a h] at *
  rw [tokL, if_pos hl, if_pos (by omega)]
theorem tok_word (s : ByteArray) (a : Nat) (h : a < s.size) (hl : letterB s[a] = true) (h24 : ¬ 24 < runTo wordB s a - a) : tokL (bytesFrom s a) = .ok (1, runTo wordB s a - a, 0) := by
  unfold runTo at *
  rw [bytesFrom_lt s a h] at *
  rw [tokL, if_pos hl, if_neg (by omega), show a + runL wordB (s[a] :: bytesFrom s (a + 1)) - a = runL wordB (s[a] :: bytesFrom s (a + 1)) by omega]
theorem run_eq (p : UInt8 → Bool) (s : ByteArray) (a : Nat) : runTo p s a - a = runL p (bytesFrom s a) := by unfold runTo; omega
theorem tok_num_bad (s : ByteArray) (a : Nat) (h : a < s.size) (hl : letterB s[a] = false) (hd : digitB s[a] = true) (hn : numRes (bytesFrom (s.extract a (runTo digitB s a)) 0) = none) : tokL (bytesFrom s a) = .error 2 := by
  unfold bytesFrom at hn
  rw [List.drop_zero, Lib.extract_data, run_eq] at hn
  rw [show s.data.toList.drop a = bytesFrom s a from rfl] at hn
  rw [bytesFrom_lt s a h] at *
  simp only [tokL]
  rw [if_neg (by simp [hl]), if_pos hd, hn]
theorem tok_num (s : ByteArray) (a v : Nat) (h : a < s.size) (hl : letterB s[a] = false) (hd : digitB s[a] = true) (hn : numRes (bytesFrom (s.extract a (runTo digitB s a)) 0) = some v) : tokL (bytesFrom s a) = .ok (2, runTo digitB s a - a, v) := by
  rw [run_eq]
  unfold bytesFrom at hn
  rw [List.drop_zero, Lib.extract_data, run_eq] at hn
  rw [show s.data.toList.drop a = bytesFrom s a from rfl] at hn
  rw [bytesFrom_lt s a h] at *
  simp only [tokL]
  rw [if_neg (by simp [hl]), if_pos hd, hn]
theorem tok_sign_bad (s : ByteArray) (a : Nat) (h : a < s.size) (hl : letterB s[a] = false) (hd : digitB s[a] = false) (hn : signL (bytesFrom s a) = 0) : tokL (bytesFrom s a) = .error 4 := by
  rw [bytesFrom_lt s a h] at *
  rw [tokL, if_neg (by simp [hl]), if_neg (by simp [hd]), if_pos hn]
theorem tok_sign (s : ByteArray) (a : Nat) (h : a < s.size) (hl : letterB s[a] = false) (hd : digitB s[a] = false) (hn : ¬ signL (bytesFrom s a) = 0) : tokL (bytesFrom s a) = .ok (3, signL (bytesFrom s a), 0) := by
  rw [bytesFrom_lt s a h] at *
  rw [tokL, if_neg (by simp [hl]), if_neg (by simp [hd]), if_neg hn]
theorem digits_of (s : ByteArray) (a : Nat) : ∀ c ∈ bytesFrom (s.extract a (runTo digitB s a)) 0, digitB c = true := by
  unfold bytesFrom
  rw [List.drop_zero, Lib.extract_data, run_eq]
  exact run_all digitB _
theorem size_extract (s : ByteArray) (a b : Nat) (h : b ≤ s.size) : (s.extract a b).size = b - a := by
  rw [ByteArray.size_extract]; omega
theorem bytes_tail (s : ByteArray) (a : Nat) : bytesFrom (s.extract a s.size) 0 = bytesFrom s a := by
  unfold bytesFrom
  rw [List.drop_zero, Lib.extract_data, List.take_of_length_le]
  rw [List.length_drop, ← Lib.size_eq]; exact Nat.le_refl _

theorem below3 (w : World) (o1 o2 o3 : Obj) : Below w.heap.size w (((w.alloc o1).alloc o2).alloc o3) :=
  (((Below.refl _ _).alloc (Nat.le_refl _) _).alloc (by simp) _).alloc (by simp; omega) _

set_option maxHeartbeats 1000000 in
theorem next_any (s : ByteArray) (a : Nat) (w : World) (hs : s.size ≤ 20000) (ha : a < s.size) :
    Calls Try.prog 22 #[.string s, .int .i64 a] w (NextRet s a w) := by
  cases hl : letterB s[a]
  · cases hd : digitB s[a]
    · have HB := Lib.hid (bytes_tail s a)
      have hz : 0 < (s.extract a s.size).size := by rw [size_extract _ _ _ (Nat.le_refl _)]; omega
      have hz2 : (s.extract a s.size).size ≤ 20000 := by rw [size_extract _ _ _ (Nat.le_refl _)]; omega
      have hsl := signL_le (bytesFrom s a)
      rw [bytesFrom_length] at hsl
      go_enter Try.func22, Try.ntmps22
      go_wp2_with (first | (go_at_call 25; refine (letter_any _ _).mono ?_; rintro e w' ⟨rfl, rfl⟩) | (go_at_call 30; refine (digit_any _ _).mono ?_; rintro e w' ⟨rfl, rfl⟩) | (go_at_call 32; refine (sign_any _ _ hz2 hz).mono ?_; rintro e w' ⟨rfl, hbl⟩; rw [HB.out]; obtain ⟨hcl, hfz⟩ := bcell hbl; have hsz := hbl.size; simp at hsz))
      all_goals have hB : Below w.heap.size w w' := (below3 _ _ _ _).trans (hbl.mono (by simp; omega))
      · have h0 : signL (bytesFrom s a) = 0 := by have : ((signL (bytesFrom s a) : Int) == 0) = true := by assumption
                                                  simp at this; exact this
        refine bodyPost_ret (v := .tuple #[.agg #[.int .i64 0, .int .i64 0, .int .i64 0, .int .i64 0], .int .i64 4]) (by simp [results, Try.results22, go_sem, hcl]) rfl ⟨?_, .inr ⟨4, tok_sign_bad s a ha hl hd h0, by omega, by omega, rfl⟩⟩
        repeat (first | exact hB | refine Below.setCell ?_ (by simp; omega) _)
      · have h0 : ¬ signL (bytesFrom s a) = 0 := by have : ((signL (bytesFrom s a) : Int) == 0) = false := by assumption
                                                    simp at this; exact this
        refine bodyPost_ret (v := .tuple #[.agg #[.int .i64 3, .int .i64 a, .int .i64 ((a + signL (bytesFrom s a) : Nat) : Int), .int .i64 0], .int .i64 0]) (by simp [results, Try.results22, go_sem, hcl]) rfl ⟨?_, .inl ⟨3, _, 0, tok_sign s a ha hl hd h0, rfl⟩⟩
        repeat (first | exact hB | refine Below.setCell ?_ (by simp; omega) _)
    · have hb := runTo_bd digitB s a (by omega)
      have hb1 := hb.1
      have hb2 := hb.2
      clear hb
      have hp := runTo_pos digitB s a ha hd
      have hz : 0 < (s.extract a (runTo digitB s a)).size := by rw [size_extract _ _ _ hb2]; omega
      have hz2 : (s.extract a (runTo digitB s a)).size ≤ 20000 := by rw [size_extract _ _ _ hb2]; omega
      have HD := Lib.hid (digits_of s a)
      go_enter Try.func22, Try.ntmps22
      go_wp2_with (first | (go_at_call 25; refine (letter_any _ _).mono ?_; rintro e w' ⟨rfl, rfl⟩) | (go_at_call 30; refine (digit_any _ _).mono ?_; rintro e w' ⟨rfl, rfl⟩) | (go_at_call 29; refine (while_digit s a _ _ _ hs (by omega) (by go_simp) (by go_simp)).mono ?_; rintro e w' ⟨rfl, rfl⟩) | (go_at_call 31; refine (number_any _ _ hz2 hz HD).mono ?_; rintro e w' ⟨rfl, ⟨v, hv, rfl⟩ | ⟨v, hv, rfl⟩⟩ <;> have HV := Lib.hid hv <;> clear hv))
      · refine bodyPost_ret (v := .tuple #[.agg #[.int .i64 2, .int .i64 a, .int .i64 (runTo digitB s a), .int .i64 v], .int .i64 0]) (by simp [results, Try.results22, go_sem]) rfl ⟨below3 _ _ _ _, .inl ⟨2, _, v, tok_num s a v ha hl hd HV.out, ?_⟩⟩
        rw [show a + (runTo digitB s a - a) = runTo digitB s a by omega]; rfl
      · refine bodyPost_ret (v := .tuple #[.agg #[.int .i64 0, .int .i64 0, .int .i64 0, .int .i64 0], .int .i64 2]) (by simp [results, Try.results22, go_sem]) rfl ⟨below3 _ _ _ _, .inr ⟨2, tok_num_bad s a ha hl hd HV.out, by omega, by omega, rfl⟩⟩
  · have hb := runTo_bd wordB s a (by omega)
    have hb1 := hb.1
    have hb2 := hb.2
    clear hb
    go_enter Try.func22, Try.ntmps22
    go_wp2_with (first | (go_at_call 25; refine (letter_any _ _).mono ?_; rintro e w' ⟨rfl, rfl⟩) | (go_at_call 29; refine (while_word s a _ _ _ hs (by omega) (by go_simp) (by go_simp)).mono ?_; rintro e w' ⟨rfl, rfl⟩))
    · refine bodyPost_ret (v := .tuple #[.agg #[.int .i64 0, .int .i64 0, .int .i64 0, .int .i64 0], .int .i64 5]) (by simp [results, Try.results22, go_sem]) rfl ⟨below3 _ _ _ _, .inr ⟨5, tok_word_bad s a ha hl (by omega), by omega, by omega, rfl⟩⟩
    · refine bodyPost_ret (v := .tuple #[.agg #[.int .i64 1, .int .i64 a, .int .i64 (runTo wordB s a), .int .i64 0], .int .i64 0]) (by simp [results, Try.results22, go_sem]) rfl ⟨below3 _ _ _ _, .inl ⟨1, _, 0, tok_word s a ha hl (by omega), ?_⟩⟩
      rw [show a + (runTo wordB s a - a) = runTo wordB s a by omega]; rfl
end Go.Proofs.Ytcaliinineajkaa
