/- The walks over the lexer's signs: strings.HasPrefix, strings.IndexByte, sign of the program and of the reference. -/
import Derived.Test.YtcaliinineajkaaLexWalk1
import Derived.Lib.Bytealg
namespace Go.Proofs.Ytcaliinineajkaa
open Go.RowKit

theorem indexByte_slite (s : ByteArray) (c : Int) (w : World) :
    Calls Try.prog 39 #[.string s, .int .u8 c] w fun e w' => e = .returned (.int .i64 (Lib.indexByte s.data.toList c.toNat.toUInt8)) ∧ w = w' := by
  go_enter Try.func39, Try.ntmps39
  go_wp2
  rw [run_callFunc_extern Try.func40 (by kernel_rfl) (by kernel_rfl) (by kernel_rfl) (e := Extern.BytealgIndexByte.indexByte) (by kernel_rfl), Lib.run_indexByteString]
  simp only [Result.andThen]
  rw [Oper.upon_value]
  go_wp2
  go_ret
  exact ⟨rfl, rfl⟩

theorem indexByte_any (s : ByteArray) (c : Int) (w : World) :
    Calls Try.prog 37 #[.string s, .int .u8 c] w fun e w' => e = .returned (.int .i64 (Lib.indexByte s.data.toList c.toNat.toUInt8)) ∧ w = w' := by
  go_enter Try.func37, Try.ntmps37
  go_wp2_with (go_at_call 39; refine (indexByte_slite _ _ _).mono ?_; rintro e w' ⟨rfl, rfl⟩)
  go_ret
  exact ⟨rfl, rfl⟩

/-- strings.HasPrefix. -/
def preB (s p : ByteArray) : Bool := decide (p.size ≤ s.size) && ((s.extract 0 p.size).toList == p.toList)

theorem hasPrefix_any (s p : ByteArray) (_hs : s.size ≤ 9223372036854775807) (w : World) :
    Calls Try.prog 36 #[.string s, .string p] w fun e w' => e = .returned (.bool (preB s p)) ∧ w = w' := by
  by_cases h : p.size ≤ s.size
  all_goals
    go_enter Try.func36, Try.ntmps36
    go_wp2
    go_ret
    refine ⟨ret_bool ?_, rfl⟩
    simp [preB, h]

/-- Whether a list begins with these two bytes. -/
def pre2 (a b : UInt8) : List UInt8 → Bool
  | x :: y :: _ => x == a && y == b
  | _ => false
theorem preB_two (t : ByteArray) (a b : UInt8) : preB t { data := #[a, b] } = pre2 a b (bytesFrom t 0) := by
  unfold preB
  rw [Lib.toList_data, Lib.toList_data, Lib.extract_data]
  obtain ⟨⟨l⟩⟩ := t
  show (decide (2 ≤ l.length) && (List.take 2 (List.drop 0 l) == [a, b])) = pre2 a b (l.drop 0)
  match l with
  | [] => rfl
  | [x] => simp [pre2]
  | x :: y :: l => simp [pre2]
theorem sign_yes (t : ByteArray) (a b : UInt8) (h : preB t { data := #[a, b] } = true) (hs : sign2B a b = true) : signL (bytesFrom t 0) = 2 := by
  rw [preB_two] at h
  match hr : bytesFrom t 0 with
  | [] => simp [hr, pre2] at h
  | [x] => simp [hr, pre2] at h
  | x :: y :: l =>
    simp [hr, pre2] at h
    simp [signL, h, hs]
theorem sign_no (t : ByteArray) (h : 0 < t.size) (h0 : preB t { data := #[46, 46] } = false) (h1 : preB t { data := #[45, 62] } = false) (h2 : preB t { data := #[58, 61] } = false) (h3 : preB t { data := #[38, 38] } = false) (h4 : preB t { data := #[124, 124] } = false) (h5 : preB t { data := #[61, 61] } = false) (h6 : preB t { data := #[33, 61] } = false) (h7 : preB t { data := #[60, 61] } = false) (h8 : preB t { data := #[62, 61] } = false) : signL (bytesFrom t 0) = if sign1B t[0] then 1 else 0 := by
  rw [preB_two] at *
  have hb := bytesFrom_lt t 0 h
  match hr : bytesFrom t 0 with
  | [] => rw [hr] at hb; simp at hb
  | [x] => rw [hr] at hb; simp at hb; simp [signL, hb.1]
  | x :: y :: l =>
    rw [hr] at hb h0 h1 h2 h3 h4 h5 h6 h7 h8
    simp only [List.cons.injEq] at hb
    simp only [pre2] at *
    rw [signL, if_neg (by simp only [sign2B, h0, h1, h2, h3, h4, h5, h6, h7, h8]; decide), hb.1]
theorem index_signs : ∀ c : UInt8, decide (0 ≤ Lib.indexByte [59, 58, 44, 40, 41, 46, 63, 60, 62, 43, 45, 42, 47, 37, 33] c) = sign1B c := by
  have h : ∀ n : Fin 256, decide (0 ≤ Lib.indexByte [59, 58, 44, 40, 41, 46, 63, 60, 62, 43, 45, 42, 47, 37, 33] (UInt8.ofNat n.val)) = sign1B (UInt8.ofNat n.val) := by decide +kernel
  intro c
  have := h ⟨c.toNat, c.toNat_lt⟩
  simpa using this

set_option maxHeartbeats 2000000 in
theorem sign_any (t : ByteArray) (w : World) (hs : t.size ≤ 20000) (h0 : 0 < t.size) :
    Calls Try.prog 32 #[.string t] w fun e w' => e = .returned (.int .i64 (signL (bytesFrom t 0))) ∧ Below w.heap.size w w' := by
  go_enter Try.func32, Try.ntmps32
  go_wp2
  refine wp_loop_rounds 10 ?_
  rw [rounds_succ]
  go_wp2_with (go_at_call 36; refine (hasPrefix_any _ _ (by omega) _).mono ?_; rintro e w' ⟨rfl, rfl⟩)
  · go_ret
    have hp : preB t { data := #[46, 46] } = true := by assumption
    exact ⟨ret_int (by rw [sign_yes t 46 46 hp (by decide)]; rfl), (Below.refl _ _).alloc (Nat.le_refl _) _⟩
  rw [rounds_succ]
  go_wp2_with (go_at_call 36; refine (hasPrefix_any _ _ (by omega) _).mono ?_; rintro e w' ⟨rfl, rfl⟩)
  · go_ret
    have hp : preB t { data := #[45, 62] } = true := by assumption
    exact ⟨ret_int (by rw [sign_yes t 45 62 hp (by decide)]; rfl), (Below.refl _ _).alloc (Nat.le_refl _) _⟩
  rw [rounds_succ]
  go_wp2_with (go_at_call 36; refine (hasPrefix_any _ _ (by omega) _).mono ?_; rintro e w' ⟨rfl, rfl⟩)
  · go_ret
    have hp : preB t { data := #[58, 61] } = true := by assumption
    exact ⟨ret_int (by rw [sign_yes t 58 61 hp (by decide)]; rfl), (Below.refl _ _).alloc (Nat.le_refl _) _⟩
  rw [rounds_succ]
  go_wp2_with (go_at_call 36; refine (hasPrefix_any _ _ (by omega) _).mono ?_; rintro e w' ⟨rfl, rfl⟩)
  · go_ret
    have hp : preB t { data := #[38, 38] } = true := by assumption
    exact ⟨ret_int (by rw [sign_yes t 38 38 hp (by decide)]; rfl), (Below.refl _ _).alloc (Nat.le_refl _) _⟩
  rw [rounds_succ]
  go_wp2_with (go_at_call 36; refine (hasPrefix_any _ _ (by omega) _).mono ?_; rintro e w' ⟨rfl, rfl⟩)
  · go_ret
    have hp : preB t { data := #[124, 124] } = true := by assumption
    exact ⟨ret_int (by rw [sign_yes t 124 124 hp (by decide)]; rfl), (Below.refl _ _).alloc (Nat.le_refl _) _⟩
  rw [rounds_succ]
  go_wp2_with (go_at_call 36; refine (hasPrefix_any _ _ (by omega) _).mono ?_; rintro e w' ⟨rfl, rfl⟩)
  · go_ret
    have hp : preB t { data := #[61, 61] } = true := by assumption
    exact ⟨ret_int (by rw [sign_yes t 61 61 hp (by decide)]; rfl), (Below.refl _ _).alloc (Nat.le_refl _) _⟩
  rw [rounds_succ]
  go_wp2_with (go_at_call 36; refine (hasPrefix_any _ _ (by omega) _).mono ?_; rintro e w' ⟨rfl, rfl⟩)
  · go_ret
    have hp : preB t { data := #[33, 61] } = true := by assumption
    exact ⟨ret_int (by rw [sign_yes t 33 61 hp (by decide)]; rfl), (Below.refl _ _).alloc (Nat.le_refl _) _⟩
  rw [rounds_succ]
  go_wp2_with (go_at_call 36; refine (hasPrefix_any _ _ (by omega) _).mono ?_; rintro e w' ⟨rfl, rfl⟩)
  · go_ret
    have hp : preB t { data := #[60, 61] } = true := by assumption
    exact ⟨ret_int (by rw [sign_yes t 60 61 hp (by decide)]; rfl), (Below.refl _ _).alloc (Nat.le_refl _) _⟩
  rw [rounds_succ]
  go_wp2_with (go_at_call 36; refine (hasPrefix_any _ _ (by omega) _).mono ?_; rintro e w' ⟨rfl, rfl⟩)
  · go_ret
    have hp : preB t { data := #[62, 61] } = true := by assumption
    exact ⟨ret_int (by rw [sign_yes t 62 61 hp (by decide)]; rfl), (Below.refl _ _).alloc (Nat.le_refl _) _⟩
  rw [rounds_succ]
  go_wp2_with (go_at_call 37; refine (indexByte_any _ _ _).mono ?_; rintro e w' ⟨rfl, rfl⟩)
  all_goals
    go_ret
    refine ⟨ret_int ?_, (Below.refl _ _).alloc (Nat.le_refl _) _⟩
    rw [sign_no t h0 (by assumption) (by assumption) (by assumption) (by assumption) (by assumption) (by assumption) (by assumption) (by assumption) (by assumption), ← index_signs]
  · rw [if_pos (by simpa using by assumption)]; rfl
  · rw [if_neg (by simpa using by assumption)]; rfl

theorem extract_two (s : ByteArray) (a : Nat) : (s.extract a (a + 2)).toList = (bytesFrom s a).take 2 := by
  rw [Lib.extract_toList, show a + 2 - a = 2 by omega]; rfl
theorem rsign_yes (s : ByteArray) (a : Nat) (x y : UInt8) (h : ((s.extract a (a + 2)).toList == [x, y]) = true) (hs : sign2B x y = true) : signL (bytesFrom s a) = 2 := by
  rw [extract_two] at h
  match hr : bytesFrom s a with
  | [] => simp [hr] at h
  | [x] => simp [hr] at h
  | u :: v :: l =>
    simp [hr] at h
    simp [signL, h, hs]
theorem rsign_no (s : ByteArray) (a : Nat) (h : a < s.size) (x : List UInt8) (hx : x = (s.extract a (a + 2)).toList) (h0 : (x == [46, 46]) = false) (h1 : (x == [45, 62]) = false) (h2 : (x == [58, 61]) = false) (h3 : (x == [38, 38]) = false) (h4 : (x == [124, 124]) = false) (h5 : (x == [61, 61]) = false) (h6 : (x == [33, 61]) = false) (h7 : (x == [60, 61]) = false) (h8 : (x == [62, 61]) = false) : signL (bytesFrom s a) = if sign1B s[a] then 1 else 0 := by
  rw [extract_two] at hx
  subst hx
  have hb := bytesFrom_lt s a h
  match hr : bytesFrom s a with
  | [] => rw [hr] at hb; simp at hb
  | [x] => rw [hr] at hb; simp at hb; simp [signL, hb.1]
  | x :: y :: l =>
    rw [hr] at hb h0 h1 h2 h3 h4 h5 h6 h7 h8
    simp only [List.cons.injEq] at hb
    simp only [List.take_succ_cons, List.take_zero, List.cons_beq_cons, List.nil_beq_eq, List.isEmpty_nil, Bool.and_true] at *
    rw [signL, if_neg (by simp only [sign2B, h0, h1, h2, h3, h4, h5, h6, h7, h8]; decide), hb.1]
theorem rsign_one (s : ByteArray) (a : Nat) (h : a < s.size) (h2 : ¬ a + 2 ≤ s.size) : signL (bytesFrom s a) = if sign1B s[a] then 1 else 0 := by
  rw [bytesFrom_lt s a h, bytesFrom_ge s (a + 1) (by omega)]; rfl
theorem sign1_yes (c : UInt8) (n : Nat) (hn : sign1B (UInt8.ofNat n) = true) (h256 : n < 256) (h : ((c.toNat : Int) == (n : Int)) = true) : sign1B c = true := by
  have : c = UInt8.ofNat n := by
    simp only [beq_iff_eq] at h
    rw [← UInt8.toNat_inj, UInt8.toNat_ofNat_of_lt' h256]; omega
  rw [this]; exact hn
theorem sign1_no (c : UInt8) (k0 : ((c.toNat : Int) == 59) = false) (k1 : ((c.toNat : Int) == 58) = false) (k2 : ((c.toNat : Int) == 44) = false) (k3 : ((c.toNat : Int) == 40) = false) (k4 : ((c.toNat : Int) == 41) = false) (k5 : ((c.toNat : Int) == 46) = false) (k6 : ((c.toNat : Int) == 63) = false) (k7 : ((c.toNat : Int) == 60) = false) (k8 : ((c.toNat : Int) == 62) = false) (k9 : ((c.toNat : Int) == 43) = false) (k10 : ((c.toNat : Int) == 45) = false) (k11 : ((c.toNat : Int) == 42) = false) (k12 : ((c.toNat : Int) == 47) = false) (k13 : ((c.toNat : Int) == 37) = false) (k14 : ((c.toNat : Int) == 33) = false) : sign1B c = false := by
  simp only [beq_eq_false_iff_ne] at *
  unfold sign1B
  rw [List.contains_eq_any_beq]
  simp only [List.any_cons, List.any_nil, Bool.or_false, Bool.or_eq_false_iff, beq_eq_false_iff_ne, ne_eq, ← UInt8.toNat_inj]
  refine ⟨?_, ?_, ?_, ?_, ?_, ?_, ?_, ?_, ?_, ?_, ?_, ?_, ?_, ?_, ?_⟩ <;> (intro hq; simp at hq; omega)

set_option maxHeartbeats 4000000 in
theorem rsign_any (s : ByteArray) (a : Nat) (w : World) (hs : s.size ≤ 20000) (h0 : a < s.size) :
    Calls Try.prog 35 #[.string s, .int .i64 a] w fun e w' => e = .returned (.int .i64 (signL (bytesFrom s a))) ∧ w = w' := by
  by_cases h2 : a + 2 ≤ s.size
  · rcases Bool.eq_false_or_eq_true ((s.extract a (a + 2)).toList == [46, 46]) with q0 | q0
    · go_enter Try.func35, Try.ntmps35
      go_wp2
      go_ret
      exact ⟨ret_int (by rw [rsign_yes s a 46 46 q0 (by decide)]; rfl), rfl⟩
    rcases Bool.eq_false_or_eq_true ((s.extract a (a + 2)).toList == [45, 62]) with q1 | q1
    · go_enter Try.func35, Try.ntmps35
      go_wp2
      go_ret
      exact ⟨ret_int (by rw [rsign_yes s a 45 62 q1 (by decide)]; rfl), rfl⟩
    rcases Bool.eq_false_or_eq_true ((s.extract a (a + 2)).toList == [58, 61]) with q2 | q2
    · go_enter Try.func35, Try.ntmps35
      go_wp2
      go_ret
      exact ⟨ret_int (by rw [rsign_yes s a 58 61 q2 (by decide)]; rfl), rfl⟩
    rcases Bool.eq_false_or_eq_true ((s.extract a (a + 2)).toList == [38, 38]) with q3 | q3
    · go_enter Try.func35, Try.ntmps35
      go_wp2
      go_ret
      exact ⟨ret_int (by rw [rsign_yes s a 38 38 q3 (by decide)]; rfl), rfl⟩
    rcases Bool.eq_false_or_eq_true ((s.extract a (a + 2)).toList == [124, 124]) with q4 | q4
    · go_enter Try.func35, Try.ntmps35
      go_wp2
      go_ret
      exact ⟨ret_int (by rw [rsign_yes s a 124 124 q4 (by decide)]; rfl), rfl⟩
    rcases Bool.eq_false_or_eq_true ((s.extract a (a + 2)).toList == [61, 61]) with q5 | q5
    · go_enter Try.func35, Try.ntmps35
      go_wp2
      go_ret
      exact ⟨ret_int (by rw [rsign_yes s a 61 61 q5 (by decide)]; rfl), rfl⟩
    rcases Bool.eq_false_or_eq_true ((s.extract a (a + 2)).toList == [33, 61]) with q6 | q6
    · go_enter Try.func35, Try.ntmps35
      go_wp2
      go_ret
      exact ⟨ret_int (by rw [rsign_yes s a 33 61 q6 (by decide)]; rfl), rfl⟩
    rcases Bool.eq_false_or_eq_true ((s.extract a (a + 2)).toList == [60, 61]) with q7 | q7
    · go_enter Try.func35, Try.ntmps35
      go_wp2
      go_ret
      exact ⟨ret_int (by rw [rsign_yes s a 60 61 q7 (by decide)]; rfl), rfl⟩
    rcases Bool.eq_false_or_eq_true ((s.extract a (a + 2)).toList == [62, 61]) with q8 | q8
    · go_enter Try.func35, Try.ntmps35
      go_wp2
      go_ret
      exact ⟨ret_int (by rw [rsign_yes s a 62 61 q8 (by decide)]; rfl), rfl⟩
    have HS := Lib.hid (rsign_no s a h0 _ rfl q0 q1 q2 q3 q4 q5 q6 q7 q8)
    rcases Bool.eq_false_or_eq_true ((s[a].toNat : Int) == 59) with k0 | k0
    · go_enter Try.func35, Try.ntmps35
      go_wp2
      go_ret
      exact ⟨ret_int (by rw [HS.out, if_pos (sign1_yes s[a] 59 (by decide) (by decide) k0)]; rfl), rfl⟩
    rcases Bool.eq_false_or_eq_true ((s[a].toNat : Int) == 58) with k1 | k1
    · go_enter Try.func35, Try.ntmps35
      go_wp2
      go_ret
      exact ⟨ret_int (by rw [HS.out, if_pos (sign1_yes s[a] 58 (by decide) (by decide) k1)]; rfl), rfl⟩
    rcases Bool.eq_false_or_eq_true ((s[a].toNat : Int) == 44) with k2 | k2
    · go_enter Try.func35, Try.ntmps35
      go_wp2
      go_ret
      exact ⟨ret_int (by rw [HS.out, if_pos (sign1_yes s[a] 44 (by decide) (by decide) k2)]; rfl), rfl⟩
    rcases Bool.eq_false_or_eq_true ((s[a].toNat : Int) == 40) with k3 | k3
    · go_enter Try.func35, Try.ntmps35
      go_wp2
      go_ret
      exact ⟨ret_int (by rw [HS.out, if_pos (sign1_yes s[a] 40 (by decide) (by decide) k3)]; rfl), rfl⟩
    rcases Bool.eq_false_or_eq_true ((s[a].toNat : Int) == 41) with k4 | k4
    · go_enter Try.func35, Try.ntmps35
      go_wp2
      go_ret
      exact ⟨ret_int (by rw [HS.out, if_pos (sign1_yes s[a] 41 (by decide) (by decide) k4)]; rfl), rfl⟩
    rcases Bool.eq_false_or_eq_true ((s[a].toNat : Int) == 46) with k5 | k5
    · go_enter Try.func35, Try.ntmps35
      go_wp2
      go_ret
      exact ⟨ret_int (by rw [HS.out, if_pos (sign1_yes s[a] 46 (by decide) (by decide) k5)]; rfl), rfl⟩
    rcases Bool.eq_false_or_eq_true ((s[a].toNat : Int) == 63) with k6 | k6
    · go_enter Try.func35, Try.ntmps35
      go_wp2
      go_ret
      exact ⟨ret_int (by rw [HS.out, if_pos (sign1_yes s[a] 63 (by decide) (by decide) k6)]; rfl), rfl⟩
    rcases Bool.eq_false_or_eq_true ((s[a].toNat : Int) == 60) with k7 | k7
    · go_enter Try.func35, Try.ntmps35
      go_wp2
      go_ret
      exact ⟨ret_int (by rw [HS.out, if_pos (sign1_yes s[a] 60 (by decide) (by decide) k7)]; rfl), rfl⟩
    rcases Bool.eq_false_or_eq_true ((s[a].toNat : Int) == 62) with k8 | k8
    · go_enter Try.func35, Try.ntmps35
      go_wp2
      go_ret
      exact ⟨ret_int (by rw [HS.out, if_pos (sign1_yes s[a] 62 (by decide) (by decide) k8)]; rfl), rfl⟩
    rcases Bool.eq_false_or_eq_true ((s[a].toNat : Int) == 43) with k9 | k9
    · go_enter Try.func35, Try.ntmps35
      go_wp2
      go_ret
      exact ⟨ret_int (by rw [HS.out, if_pos (sign1_yes s[a] 43 (by decide) (by decide) k9)]; rfl), rfl⟩
    rcases Bool.eq_false_or_eq_true ((s[a].toNat : Int) == 45) with k10 | k10
    · go_enter Try.func35, Try.ntmps35
      go_wp2
      go_ret
      exact ⟨ret_int (by rw [HS.out, if_pos (sign1_yes s[a] 45 (by decide) (by decide) k10)]; rfl), rfl⟩
    rcases Bool.eq_false_or_eq_true ((s[a].toNat : Int) == 42) with k11 | k11
    · go_enter Try.func35, Try.ntmps35
      go_wp2
      go_ret
      exact ⟨ret_int (by rw [HS.out, if_pos (sign1_yes s[a] 42 (by decide) (by decide) k11)]; rfl), rfl⟩
    rcases Bool.eq_false_or_eq_true ((s[a].toNat : Int) == 47) with k12 | k12
    · go_enter Try.func35, Try.ntmps35
      go_wp2
      go_ret
      exact ⟨ret_int (by rw [HS.out, if_pos (sign1_yes s[a] 47 (by decide) (by decide) k12)]; rfl), rfl⟩
    rcases Bool.eq_false_or_eq_true ((s[a].toNat : Int) == 37) with k13 | k13
    · go_enter Try.func35, Try.ntmps35
      go_wp2
      go_ret
      exact ⟨ret_int (by rw [HS.out, if_pos (sign1_yes s[a] 37 (by decide) (by decide) k13)]; rfl), rfl⟩
    rcases Bool.eq_false_or_eq_true ((s[a].toNat : Int) == 33) with k14 | k14
    · go_enter Try.func35, Try.ntmps35
      go_wp2
      go_ret
      exact ⟨ret_int (by rw [HS.out, if_pos (sign1_yes s[a] 33 (by decide) (by decide) k14)]; rfl), rfl⟩
    · go_enter Try.func35, Try.ntmps35
      go_wp2
      go_ret
      exact ⟨ret_int (by rw [HS.out, if_neg (by rw [sign1_no s[a] k0 k1 k2 k3 k4 k5 k6 k7 k8 k9 k10 k11 k12 k13 k14]; decide)]; rfl), rfl⟩
  · have HS := Lib.hid (rsign_one s a h0 h2)
    rcases Bool.eq_false_or_eq_true ((s[a].toNat : Int) == 59) with k0 | k0
    · go_enter Try.func35, Try.ntmps35
      go_wp2
      go_ret
      exact ⟨ret_int (by rw [HS.out, if_pos (sign1_yes s[a] 59 (by decide) (by decide) k0)]; rfl), rfl⟩
    rcases Bool.eq_false_or_eq_true ((s[a].toNat : Int) == 58) with k1 | k1
    · go_enter Try.func35, Try.ntmps35
      go_wp2
      go_ret
      exact ⟨ret_int (by rw [HS.out, if_pos (sign1_yes s[a] 58 (by decide) (by decide) k1)]; rfl), rfl⟩
    rcases Bool.eq_false_or_eq_true ((s[a].toNat : Int) == 44) with k2 | k2
    · go_enter Try.func35, Try.ntmps35
      go_wp2
      go_ret
      exact ⟨ret_int (by rw [HS.out, if_pos (sign1_yes s[a] 44 (by decide) (by decide) k2)]; rfl), rfl⟩
    rcases Bool.eq_false_or_eq_true ((s[a].toNat : Int) == 40) with k3 | k3
    · go_enter Try.func35, Try.ntmps35
      go_wp2
      go_ret
      exact ⟨ret_int (by rw [HS.out, if_pos (sign1_yes s[a] 40 (by decide) (by decide) k3)]; rfl), rfl⟩
    rcases Bool.eq_false_or_eq_true ((s[a].toNat : Int) == 41) with k4 | k4
    · go_enter Try.func35, Try.ntmps35
      go_wp2
      go_ret
      exact ⟨ret_int (by rw [HS.out, if_pos (sign1_yes s[a] 41 (by decide) (by decide) k4)]; rfl), rfl⟩
    rcases Bool.eq_false_or_eq_true ((s[a].toNat : Int) == 46) with k5 | k5
    · go_enter Try.func35, Try.ntmps35
      go_wp2
      go_ret
      exact ⟨ret_int (by rw [HS.out, if_pos (sign1_yes s[a] 46 (by decide) (by decide) k5)]; rfl), rfl⟩
    rcases Bool.eq_false_or_eq_true ((s[a].toNat : Int) == 63) with k6 | k6
    · go_enter Try.func35, Try.ntmps35
      go_wp2
      go_ret
      exact ⟨ret_int (by rw [HS.out, if_pos (sign1_yes s[a] 63 (by decide) (by decide) k6)]; rfl), rfl⟩
    rcases Bool.eq_false_or_eq_true ((s[a].toNat : Int) == 60) with k7 | k7
    · go_enter Try.func35, Try.ntmps35
      go_wp2
      go_ret
      exact ⟨ret_int (by rw [HS.out, if_pos (sign1_yes s[a] 60 (by decide) (by decide) k7)]; rfl), rfl⟩
    rcases Bool.eq_false_or_eq_true ((s[a].toNat : Int) == 62) with k8 | k8
    · go_enter Try.func35, Try.ntmps35
      go_wp2
      go_ret
      exact ⟨ret_int (by rw [HS.out, if_pos (sign1_yes s[a] 62 (by decide) (by decide) k8)]; rfl), rfl⟩
    rcases Bool.eq_false_or_eq_true ((s[a].toNat : Int) == 43) with k9 | k9
    · go_enter Try.func35, Try.ntmps35
      go_wp2
      go_ret
      exact ⟨ret_int (by rw [HS.out, if_pos (sign1_yes s[a] 43 (by decide) (by decide) k9)]; rfl), rfl⟩
    rcases Bool.eq_false_or_eq_true ((s[a].toNat : Int) == 45) with k10 | k10
    · go_enter Try.func35, Try.ntmps35
      go_wp2
      go_ret
      exact ⟨ret_int (by rw [HS.out, if_pos (sign1_yes s[a] 45 (by decide) (by decide) k10)]; rfl), rfl⟩
    rcases Bool.eq_false_or_eq_true ((s[a].toNat : Int) == 42) with k11 | k11
    · go_enter Try.func35, Try.ntmps35
      go_wp2
      go_ret
      exact ⟨ret_int (by rw [HS.out, if_pos (sign1_yes s[a] 42 (by decide) (by decide) k11)]; rfl), rfl⟩
    rcases Bool.eq_false_or_eq_true ((s[a].toNat : Int) == 47) with k12 | k12
    · go_enter Try.func35, Try.ntmps35
      go_wp2
      go_ret
      exact ⟨ret_int (by rw [HS.out, if_pos (sign1_yes s[a] 47 (by decide) (by decide) k12)]; rfl), rfl⟩
    rcases Bool.eq_false_or_eq_true ((s[a].toNat : Int) == 37) with k13 | k13
    · go_enter Try.func35, Try.ntmps35
      go_wp2
      go_ret
      exact ⟨ret_int (by rw [HS.out, if_pos (sign1_yes s[a] 37 (by decide) (by decide) k13)]; rfl), rfl⟩
    rcases Bool.eq_false_or_eq_true ((s[a].toNat : Int) == 33) with k14 | k14
    · go_enter Try.func35, Try.ntmps35
      go_wp2
      go_ret
      exact ⟨ret_int (by rw [HS.out, if_pos (sign1_yes s[a] 33 (by decide) (by decide) k14)]; rfl), rfl⟩
    · go_enter Try.func35, Try.ntmps35
      go_wp2
      go_ret
      exact ⟨ret_int (by rw [HS.out, if_neg (by rw [sign1_no s[a] k0 k1 k2 k3 k4 k5 k6 k7 k8 k9 k10 k11 k12 k13 k14]; decide)]; rfl), rfl⟩
end Go.Proofs.Ytcaliinineajkaa
