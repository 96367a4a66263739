/- Part 14 of the texts under ExprParses,ExprIsStable,ExprReadsBack,ExprIgnoresBrackets,ExprFormats,ExprBracketsEverything: joined, with what it needs alone. -/
import Derived.Lib.Bytealg
import Derived.Deep.LoopGhost
import Derived.Deep.QuietTactic
import Derived.BigQuiet
import Derived.Test.YtcpgpiabeimefaaGreatDoorP11
import Derived.Test.YtcpgpiabeimefaaGreatDoorP12
set_option maxRecDepth 100000
namespace Go.Proofs.YtcpgpiabeimefaaGreatDoor
open Go.RowKit

theorem indexByte_slite (s : ByteArray) (c : Int) (w : World) :
    Calls Tryz.prog 115 #[.string s, .int .u8 c] w fun e w' => e = .returned (.int .i64 (Lib.indexByte s.data.toList c.toNat.toUInt8)) ∧ w = w' := by
  go_enter Tryz.func115, Tryz.ntmps115
  go_wp2
  rw [run_callFunc_extern Tryz.func127 (by kernel_rfl) (by kernel_rfl) (by kernel_rfl) (e := Extern.BytealgIndexByte.indexByte) (by kernel_rfl), Lib.run_indexByteString]
  simp only [Result.andThen]
  rw [Oper.upon_value]
  go_wp2
  go_ret
  exact ⟨rfl, rfl⟩

theorem indexByte_any (s : ByteArray) (c : Int) (w : World) :
    Calls Tryz.prog 108 #[.string s, .int .u8 c] w fun e w' => e = .returned (.int .i64 (Lib.indexByte s.data.toList c.toNat.toUInt8)) ∧ w = w' := by
  go_enter Tryz.func108, Tryz.ntmps108
  go_wp2_with (go_at_call 115; refine (indexByte_slite _ _ _).mono ?_; rintro e w' ⟨rfl, rfl⟩)
  go_ret
  exact ⟨rfl, rfl⟩

def preB (s p : ByteArray) : Bool := decide (p.size ≤ s.size) && ((s.extract 0 p.size).toList == p.toList)

theorem ydr (s p : ByteArray) (_hs : s.size ≤ 9223372036854775807) (w : World) :
    Calls Tryz.prog 107 #[.string s, .string p] w fun e w' => e = .returned (.bool (preB s p)) ∧ w = w' := by
  by_cases h : p.size ≤ s.size
  all_goals
    go_enter Tryz.func107, Tryz.ntmps107
    go_wp2
    go_ret
    refine ⟨yas ?_, rfl⟩
    simp [preB, h]

def pre2 (a b : UInt8) : List UInt8 → Bool
  | x :: y :: _ => x == a && y == b
  | _ => false
theorem preB_two (t : ByteArray) (a b : UInt8) : preB t { data := #[a, b] } = pre2 a b (yal t 0) := by
  unfold preB
  rw [Lib.toList_data, Lib.toList_data, Lib.extract_data]
  obtain ⟨⟨l⟩⟩ := t
  show (decide (2 ≤ l.length) && (List.take 2 (List.drop 0 l) == [a, b])) = pre2 a b (l.drop 0)
  match l with
  | [] => rfl
  | [x] => simp [pre2]
  | x :: y :: l => simp [pre2]
theorem sign_yes (t : ByteArray) (a b : UInt8) (h : preB t { data := #[a, b] } = true) (hs : sign2B a b = true) : yfe (yal t 0) = 2 := by
  rw [preB_two] at h
  match hr : yal t 0 with
  | [] => simp [hr, pre2] at h
  | [x] => simp [hr, pre2] at h
  | x :: y :: l =>
    simp [hr, pre2] at h
    simp [yfe, h, hs]
theorem sign_no (t : ByteArray) (h : 0 < t.size) (h0 : preB t { data := #[46, 46] } = false) (h1 : preB t { data := #[45, 62] } = false) (h2 : preB t { data := #[58, 61] } = false) (h3 : preB t { data := #[38, 38] } = false) (h4 : preB t { data := #[124, 124] } = false) (h5 : preB t { data := #[61, 61] } = false) (h6 : preB t { data := #[33, 61] } = false) (h7 : preB t { data := #[60, 61] } = false) (h8 : preB t { data := #[62, 61] } = false) : yfe (yal t 0) = if sign1B t[0] then 1 else 0 := by
  rw [preB_two] at *
  have hb := ybq t 0 h
  match hr : yal t 0 with
  | [] => rw [hr] at hb; simp at hb
  | [x] => rw [hr] at hb; simp at hb; simp [yfe, hb.1]
  | x :: y :: l =>
    rw [hr] at hb h0 h1 h2 h3 h4 h5 h6 h7 h8
    simp only [List.cons.injEq] at hb
    simp only [pre2] at *
    rw [yfe, if_neg (by simp only [sign2B, h0, h1, h2, h3, h4, h5, h6, h7, h8]; decide), hb.1]
theorem index_signs : ∀ c : UInt8, decide (0 ≤ Lib.indexByte [59, 58, 44, 40, 41, 46, 63, 60, 62, 43, 45, 42, 47, 37, 33] c) = sign1B c := by
  have h : ∀ n : Fin 256, decide (0 ≤ Lib.indexByte [59, 58, 44, 40, 41, 46, 63, 60, 62, 43, 45, 42, 47, 37, 33] (UInt8.ofNat n.val)) = sign1B (UInt8.ofNat n.val) := by decide +kernel
  intro c
  have := h ⟨c.toNat, c.toNat_lt⟩
  simpa using this

set_option maxHeartbeats 2000000 in
theorem sign_any (t : ByteArray) (w : World) (hs : t.size ≤ 20000) (h0 : 0 < t.size) :
    Calls Tryz.prog 81 #[.string t] w fun e w' => e = .returned (.int .i64 (yfe (yal t 0))) ∧ Below w.heap.size w w' := by
  go_enter Tryz.func81, Tryz.ntmps81
  go_wp2
  refine wp_loop_rounds 10 ?_
  rw [rounds_succ]
  go_wp2_with (go_at_call 107; refine (ydr _ _ (by omega) _).mono ?_; rintro e w' ⟨rfl, rfl⟩)
  · go_ret
    have hp : preB t { data := #[46, 46] } = true := by assumption
    exact ⟨ybc (by rw [sign_yes t 46 46 hp (by decide)]; rfl), (Below.refl _ _).alloc (Nat.le_refl _) _⟩
  rw [rounds_succ]
  go_wp2_with (go_at_call 107; refine (ydr _ _ (by omega) _).mono ?_; rintro e w' ⟨rfl, rfl⟩)
  · go_ret
    have hp : preB t { data := #[45, 62] } = true := by assumption
    exact ⟨ybc (by rw [sign_yes t 45 62 hp (by decide)]; rfl), (Below.refl _ _).alloc (Nat.le_refl _) _⟩
  rw [rounds_succ]
  go_wp2_with (go_at_call 107; refine (ydr _ _ (by omega) _).mono ?_; rintro e w' ⟨rfl, rfl⟩)
  · go_ret
    have hp : preB t { data := #[58, 61] } = true := by assumption
    exact ⟨ybc (by rw [sign_yes t 58 61 hp (by decide)]; rfl), (Below.refl _ _).alloc (Nat.le_refl _) _⟩
  rw [rounds_succ]
  go_wp2_with (go_at_call 107; refine (ydr _ _ (by omega) _).mono ?_; rintro e w' ⟨rfl, rfl⟩)
  · go_ret
    have hp : preB t { data := #[38, 38] } = true := by assumption
    exact ⟨ybc (by rw [sign_yes t 38 38 hp (by decide)]; rfl), (Below.refl _ _).alloc (Nat.le_refl _) _⟩
  rw [rounds_succ]
  go_wp2_with (go_at_call 107; refine (ydr _ _ (by omega) _).mono ?_; rintro e w' ⟨rfl, rfl⟩)
  · go_ret
    have hp : preB t { data := #[124, 124] } = true := by assumption
    exact ⟨ybc (by rw [sign_yes t 124 124 hp (by decide)]; rfl), (Below.refl _ _).alloc (Nat.le_refl _) _⟩
  rw [rounds_succ]
  go_wp2_with (go_at_call 107; refine (ydr _ _ (by omega) _).mono ?_; rintro e w' ⟨rfl, rfl⟩)
  · go_ret
    have hp : preB t { data := #[61, 61] } = true := by assumption
    exact ⟨ybc (by rw [sign_yes t 61 61 hp (by decide)]; rfl), (Below.refl _ _).alloc (Nat.le_refl _) _⟩
  rw [rounds_succ]
  go_wp2_with (go_at_call 107; refine (ydr _ _ (by omega) _).mono ?_; rintro e w' ⟨rfl, rfl⟩)
  · go_ret
    have hp : preB t { data := #[33, 61] } = true := by assumption
    exact ⟨ybc (by rw [sign_yes t 33 61 hp (by decide)]; rfl), (Below.refl _ _).alloc (Nat.le_refl _) _⟩
  rw [rounds_succ]
  go_wp2_with (go_at_call 107; refine (ydr _ _ (by omega) _).mono ?_; rintro e w' ⟨rfl, rfl⟩)
  · go_ret
    have hp : preB t { data := #[60, 61] } = true := by assumption
    exact ⟨ybc (by rw [sign_yes t 60 61 hp (by decide)]; rfl), (Below.refl _ _).alloc (Nat.le_refl _) _⟩
  rw [rounds_succ]
  go_wp2_with (go_at_call 107; refine (ydr _ _ (by omega) _).mono ?_; rintro e w' ⟨rfl, rfl⟩)
  · go_ret
    have hp : preB t { data := #[62, 61] } = true := by assumption
    exact ⟨ybc (by rw [sign_yes t 62 61 hp (by decide)]; rfl), (Below.refl _ _).alloc (Nat.le_refl _) _⟩
  rw [rounds_succ]
  go_wp2_with (go_at_call 108; refine (indexByte_any _ _ _).mono ?_; rintro e w' ⟨rfl, rfl⟩)
  all_goals
    go_ret
    refine ⟨ybc ?_, (Below.refl _ _).alloc (Nat.le_refl _) _⟩
    rw [sign_no t h0 (by assumption) (by assumption) (by assumption) (by assumption) (by assumption) (by assumption) (by assumption) (by assumption) (by assumption), ← index_signs]
  · rw [if_pos (by simpa using by assumption)]; rfl
  · rw [if_neg (by simpa using by assumption)]; rfl

theorem extract_two (s : ByteArray) (a : Nat) : (s.extract a (a + 2)).toList = (yal s a).take 2 := by
  rw [Lib.extract_toList, show a + 2 - a = 2 by omega]; rfl
theorem rsign_yes (s : ByteArray) (a : Nat) (x y : UInt8) (h : ((s.extract a (a + 2)).toList == [x, y]) = true) (hs : sign2B x y = true) : yfe (yal s a) = 2 := by
  rw [extract_two] at h
  match hr : yal s a with
  | [] => simp [hr] at h
  | [x] => simp [hr] at h
  | u :: v :: l =>
    simp [hr] at h
    simp [yfe, h, hs]
theorem rsign_no (s : ByteArray) (a : Nat) (h : a < s.size) (x : List UInt8) (hx : x = (s.extract a (a + 2)).toList) (h0 : (x == [46, 46]) = false) (h1 : (x == [45, 62]) = false) (h2 : (x == [58, 61]) = false) (h3 : (x == [38, 38]) = false) (h4 : (x == [124, 124]) = false) (h5 : (x == [61, 61]) = false) (h6 : (x == [33, 61]) = false) (h7 : (x == [60, 61]) = false) (h8 : (x == [62, 61]) = false) : yfe (yal s a) = if sign1B s[a] then 1 else 0 := by
  rw [extract_two] at hx
  subst hx
  have hb := ybq s a h
  match hr : yal s a with
  | [] => rw [hr] at hb; simp at hb
  | [x] => rw [hr] at hb; simp at hb; simp [yfe, hb.1]
  | x :: y :: l =>
    rw [hr] at hb h0 h1 h2 h3 h4 h5 h6 h7 h8
    simp only [List.cons.injEq] at hb
    simp only [List.take_succ_cons, List.take_zero, List.cons_beq_cons, List.nil_beq_eq, List.isEmpty_nil, Bool.and_true] at *
    rw [yfe, if_neg (by simp only [sign2B, h0, h1, h2, h3, h4, h5, h6, h7, h8]; decide), hb.1]
theorem rsign_one (s : ByteArray) (a : Nat) (h : a < s.size) (h2 : ¬ a + 2 ≤ s.size) : yfe (yal s a) = if sign1B s[a] then 1 else 0 := by
  rw [ybq s a h, bytesFrom_ge s (a + 1) (by omega)]; rfl
theorem ybu (c : UInt8) (n : Nat) (hn : sign1B (UInt8.ofNat n) = true) (h256 : n < 256) (h : ((c.toNat : Int) == (n : Int)) = true) : sign1B c = true := by
  have : c = UInt8.ofNat n := by
    simp only [beq_iff_eq] at h
    rw [← UInt8.toNat_inj, UInt8.toNat_ofNat_of_lt' h256]; omega
  rw [this]; exact hn
theorem sign1_no (c : UInt8) (k0 : ((c.toNat : Int) == 59) = false) (k1 : ((c.toNat : Int) == 58) = false) (k2 : ((c.toNat : Int) == 44) = false) (k3 : ((c.toNat : Int) == 40) = false) (k4 : ((c.toNat : Int) == 41) = false) (k5 : ((c.toNat : Int) == 46) = false) (k6 : ((c.toNat : Int) == 63) = false) (k7 : ((c.toNat : Int) == 60) = false) (k8 : ((c.toNat : Int) == 62) = false) (k9 : ((c.toNat : Int) == 43) = false) (k10 : ((c.toNat : Int) == 45) = false) (k11 : ((c.toNat : Int) == 42) = false) (k12 : ((c.toNat : Int) == 47) = false) (k13 : ((c.toNat : Int) == 37) = false) (k14 : ((c.toNat : Int) == 33) = false) : sign1B c = false := by
  simp only [beq_eq_false_iff_ne] at *
  unfold sign1B
  rw [List.contains_eq_any_beq]
  simp only [List.any_cons, List.any_nil, Bool.or_false, Bool.or_eq_false_iff, beq_eq_false_iff_ne, ne_eq, ← UInt8.toNat_inj]
  refine ⟨?_, ?_, ?_, ?_, ?_, ?_, ?_, ?_, ?_, ?_, ?_, ?_, ?_, ?_, ?_⟩ <;> (intro hq; simp at hq; omega)

set_option maxHeartbeats 4000000 in
theorem rsign_any (s : ByteArray) (a : Nat) (w : World) (hs : s.size ≤ 20000) (h0 : a < s.size) :
    Calls Tryz.prog 97 #[.string s, .int .i64 a] w fun e w' => e = .returned (.int .i64 (yfe (yal s a))) ∧ w = w' := by
  by_cases h2 : a + 2 ≤ s.size
  · rcases Bool.eq_false_or_eq_true ((s.extract a (a + 2)).toList == [46, 46]) with q0 | q0
    · go_enter Tryz.func97, Tryz.ntmps97
      go_wp2
      go_ret
      exact ⟨ybc (by rw [rsign_yes s a 46 46 q0 (by decide)]; rfl), rfl⟩
    rcases Bool.eq_false_or_eq_true ((s.extract a (a + 2)).toList == [45, 62]) with q1 | q1
    · go_enter Tryz.func97, Tryz.ntmps97
      go_wp2
      go_ret
      exact ⟨ybc (by rw [rsign_yes s a 45 62 q1 (by decide)]; rfl), rfl⟩
    rcases Bool.eq_false_or_eq_true ((s.extract a (a + 2)).toList == [58, 61]) with q2 | q2
    · go_enter Tryz.func97, Tryz.ntmps97
      go_wp2
      go_ret
      exact ⟨ybc (by rw [rsign_yes s a 58 61 q2 (by decide)]; rfl), rfl⟩
    rcases Bool.eq_false_or_eq_true ((s.extract a (a + 2)).toList == [38, 38]) with q3 | q3
    · go_enter Tryz.func97, Tryz.ntmps97
      go_wp2
      go_ret
      exact ⟨ybc (by rw [rsign_yes s a 38 38 q3 (by decide)]; rfl), rfl⟩
    rcases Bool.eq_false_or_eq_true ((s.extract a (a + 2)).toList == [124, 124]) with q4 | q4
    · go_enter Tryz.func97, Tryz.ntmps97
      go_wp2
      go_ret
      exact ⟨ybc (by rw [rsign_yes s a 124 124 q4 (by decide)]; rfl), rfl⟩
    rcases Bool.eq_false_or_eq_true ((s.extract a (a + 2)).toList == [61, 61]) with q5 | q5
    · go_enter Tryz.func97, Tryz.ntmps97
      go_wp2
      go_ret
      exact ⟨ybc (by rw [rsign_yes s a 61 61 q5 (by decide)]; rfl), rfl⟩
    rcases Bool.eq_false_or_eq_true ((s.extract a (a + 2)).toList == [33, 61]) with q6 | q6
    · go_enter Tryz.func97, Tryz.ntmps97
      go_wp2
      go_ret
      exact ⟨ybc (by rw [rsign_yes s a 33 61 q6 (by decide)]; rfl), rfl⟩
    rcases Bool.eq_false_or_eq_true ((s.extract a (a + 2)).toList == [60, 61]) with q7 | q7
    · go_enter Tryz.func97, Tryz.ntmps97
      go_wp2
      go_ret
      exact ⟨ybc (by rw [rsign_yes s a 60 61 q7 (by decide)]; rfl), rfl⟩
    rcases Bool.eq_false_or_eq_true ((s.extract a (a + 2)).toList == [62, 61]) with q8 | q8
    · go_enter Tryz.func97, Tryz.ntmps97
      go_wp2
      go_ret
      exact ⟨ybc (by rw [rsign_yes s a 62 61 q8 (by decide)]; rfl), rfl⟩
    have HS := Lib.hid (rsign_no s a h0 _ rfl q0 q1 q2 q3 q4 q5 q6 q7 q8)
    rcases Bool.eq_false_or_eq_true ((s[a].toNat : Int) == 59) with k0 | k0
    · go_enter Tryz.func97, Tryz.ntmps97
      go_wp2
      go_ret
      exact ⟨ybc (by rw [HS.out, if_pos (ybu s[a] 59 (by decide) (by decide) k0)]; rfl), rfl⟩
    rcases Bool.eq_false_or_eq_true ((s[a].toNat : Int) == 58) with k1 | k1
    · go_enter Tryz.func97, Tryz.ntmps97
      go_wp2
      go_ret
      exact ⟨ybc (by rw [HS.out, if_pos (ybu s[a] 58 (by decide) (by decide) k1)]; rfl), rfl⟩
    rcases Bool.eq_false_or_eq_true ((s[a].toNat : Int) == 44) with k2 | k2
    · go_enter Tryz.func97, Tryz.ntmps97
      go_wp2
      go_ret
      exact ⟨ybc (by rw [HS.out, if_pos (ybu s[a] 44 (by decide) (by decide) k2)]; rfl), rfl⟩
    rcases Bool.eq_false_or_eq_true ((s[a].toNat : Int) == 40) with k3 | k3
    · go_enter Tryz.func97, Tryz.ntmps97
      go_wp2
      go_ret
      exact ⟨ybc (by rw [HS.out, if_pos (ybu s[a] 40 (by decide) (by decide) k3)]; rfl), rfl⟩
    rcases Bool.eq_false_or_eq_true ((s[a].toNat : Int) == 41) with k4 | k4
    · go_enter Tryz.func97, Tryz.ntmps97
      go_wp2
      go_ret
      exact ⟨ybc (by rw [HS.out, if_pos (ybu s[a] 41 (by decide) (by decide) k4)]; rfl), rfl⟩
    rcases Bool.eq_false_or_eq_true ((s[a].toNat : Int) == 46) with k5 | k5
    · go_enter Tryz.func97, Tryz.ntmps97
      go_wp2
      go_ret
      exact ⟨ybc (by rw [HS.out, if_pos (ybu s[a] 46 (by decide) (by decide) k5)]; rfl), rfl⟩
    rcases Bool.eq_false_or_eq_true ((s[a].toNat : Int) == 63) with k6 | k6
    · go_enter Tryz.func97, Tryz.ntmps97
      go_wp2
      go_ret
      exact ⟨ybc (by rw [HS.out, if_pos (ybu s[a] 63 (by decide) (by decide) k6)]; rfl), rfl⟩
    rcases Bool.eq_false_or_eq_true ((s[a].toNat : Int) == 60) with k7 | k7
    · go_enter Tryz.func97, Tryz.ntmps97
      go_wp2
      go_ret
      exact ⟨ybc (by rw [HS.out, if_pos (ybu s[a] 60 (by decide) (by decide) k7)]; rfl), rfl⟩
    rcases Bool.eq_false_or_eq_true ((s[a].toNat : Int) == 62) with k8 | k8
    · go_enter Tryz.func97, Tryz.ntmps97
      go_wp2
      go_ret
      exact ⟨ybc (by rw [HS.out, if_pos (ybu s[a] 62 (by decide) (by decide) k8)]; rfl), rfl⟩
    rcases Bool.eq_false_or_eq_true ((s[a].toNat : Int) == 43) with k9 | k9
    · go_enter Tryz.func97, Tryz.ntmps97
      go_wp2
      go_ret
      exact ⟨ybc (by rw [HS.out, if_pos (ybu s[a] 43 (by decide) (by decide) k9)]; rfl), rfl⟩
    rcases Bool.eq_false_or_eq_true ((s[a].toNat : Int) == 45) with k10 | k10
    · go_enter Tryz.func97, Tryz.ntmps97
      go_wp2
      go_ret
      exact ⟨ybc (by rw [HS.out, if_pos (ybu s[a] 45 (by decide) (by decide) k10)]; rfl), rfl⟩
    rcases Bool.eq_false_or_eq_true ((s[a].toNat : Int) == 42) with k11 | k11
    · go_enter Tryz.func97, Tryz.ntmps97
      go_wp2
      go_ret
      exact ⟨ybc (by rw [HS.out, if_pos (ybu s[a] 42 (by decide) (by decide) k11)]; rfl), rfl⟩
    rcases Bool.eq_false_or_eq_true ((s[a].toNat : Int) == 47) with k12 | k12
    · go_enter Tryz.func97, Tryz.ntmps97
      go_wp2
      go_ret
      exact ⟨ybc (by rw [HS.out, if_pos (ybu s[a] 47 (by decide) (by decide) k12)]; rfl), rfl⟩
    rcases Bool.eq_false_or_eq_true ((s[a].toNat : Int) == 37) with k13 | k13
    · go_enter Tryz.func97, Tryz.ntmps97
      go_wp2
      go_ret
      exact ⟨ybc (by rw [HS.out, if_pos (ybu s[a] 37 (by decide) (by decide) k13)]; rfl), rfl⟩
    rcases Bool.eq_false_or_eq_true ((s[a].toNat : Int) == 33) with k14 | k14
    · go_enter Tryz.func97, Tryz.ntmps97
      go_wp2
      go_ret
      exact ⟨ybc (by rw [HS.out, if_pos (ybu s[a] 33 (by decide) (by decide) k14)]; rfl), rfl⟩
    · go_enter Tryz.func97, Tryz.ntmps97
      go_wp2
      go_ret
      exact ⟨ybc (by rw [HS.out, if_neg (by rw [sign1_no s[a] k0 k1 k2 k3 k4 k5 k6 k7 k8 k9 k10 k11 k12 k13 k14]; decide)]; rfl), rfl⟩
  · have HS := Lib.hid (rsign_one s a h0 h2)
    rcases Bool.eq_false_or_eq_true ((s[a].toNat : Int) == 59) with k0 | k0
    · go_enter Tryz.func97, Tryz.ntmps97
      go_wp2
      go_ret
      exact ⟨ybc (by rw [HS.out, if_pos (ybu s[a] 59 (by decide) (by decide) k0)]; rfl), rfl⟩
    rcases Bool.eq_false_or_eq_true ((s[a].toNat : Int) == 58) with k1 | k1
    · go_enter Tryz.func97, Tryz.ntmps97
      go_wp2
      go_ret
      exact ⟨ybc (by rw [HS.out, if_pos (ybu s[a] 58 (by decide) (by decide) k1)]; rfl), rfl⟩
    rcases Bool.eq_false_or_eq_true ((s[a].toNat : Int) == 44) with k2 | k2
    · go_enter Tryz.func97, Tryz.ntmps97
      go_wp2
      go_ret
      exact ⟨ybc (by rw [HS.out, if_pos (ybu s[a] 44 (by decide) (by decide) k2)]; rfl), rfl⟩
    rcases Bool.eq_false_or_eq_true ((s[a].toNat : Int) == 40) with k3 | k3
    · go_enter Tryz.func97, Tryz.ntmps97
      go_wp2
      go_ret
      exact ⟨ybc (by rw [HS.out, if_pos (ybu s[a] 40 (by decide) (by decide) k3)]; rfl), rfl⟩
    rcases Bool.eq_false_or_eq_true ((s[a].toNat : Int) == 41) with k4 | k4
    · go_enter Tryz.func97, Tryz.ntmps97
      go_wp2
      go_ret
      exact ⟨ybc (by rw [HS.out, if_pos (ybu s[a] 41 (by decide) (by decide) k4)]; rfl), rfl⟩
    rcases Bool.eq_false_or_eq_true ((s[a].toNat : Int) == 46) with k5 | k5
    · go_enter Tryz.func97, Tryz.ntmps97
      go_wp2
      go_ret
      exact ⟨ybc (by rw [HS.out, if_pos (ybu s[a] 46 (by decide) (by decide) k5)]; rfl), rfl⟩
    rcases Bool.eq_false_or_eq_true ((s[a].toNat : Int) == 63) with k6 | k6
    · go_enter Tryz.func97, Tryz.ntmps97
      go_wp2
      go_ret
      exact ⟨ybc (by rw [HS.out, if_pos (ybu s[a] 63 (by decide) (by decide) k6)]; rfl), rfl⟩
    rcases Bool.eq_false_or_eq_true ((s[a].toNat : Int) == 60) with k7 | k7
    · go_enter Tryz.func97, Tryz.ntmps97
      go_wp2
      go_ret
      exact ⟨ybc (by rw [HS.out, if_pos (ybu s[a] 60 (by decide) (by decide) k7)]; rfl), rfl⟩
    rcases Bool.eq_false_or_eq_true ((s[a].toNat : Int) == 62) with k8 | k8
    · go_enter Tryz.func97, Tryz.ntmps97
      go_wp2
      go_ret
      exact ⟨ybc (by rw [HS.out, if_pos (ybu s[a] 62 (by decide) (by decide) k8)]; rfl), rfl⟩
    rcases Bool.eq_false_or_eq_true ((s[a].toNat : Int) == 43) with k9 | k9
    · go_enter Tryz.func97, Tryz.ntmps97
      go_wp2
      go_ret
      exact ⟨ybc (by rw [HS.out, if_pos (ybu s[a] 43 (by decide) (by decide) k9)]; rfl), rfl⟩
    rcases Bool.eq_false_or_eq_true ((s[a].toNat : Int) == 45) with k10 | k10
    · go_enter Tryz.func97, Tryz.ntmps97
      go_wp2
      go_ret
      exact ⟨ybc (by rw [HS.out, if_pos (ybu s[a] 45 (by decide) (by decide) k10)]; rfl), rfl⟩
    rcases Bool.eq_false_or_eq_true ((s[a].toNat : Int) == 42) with k11 | k11
    · go_enter Tryz.func97, Tryz.ntmps97
      go_wp2
      go_ret
      exact ⟨ybc (by rw [HS.out, if_pos (ybu s[a] 42 (by decide) (by decide) k11)]; rfl), rfl⟩
    rcases Bool.eq_false_or_eq_true ((s[a].toNat : Int) == 47) with k12 | k12
    · go_enter Tryz.func97, Tryz.ntmps97
      go_wp2
      go_ret
      exact ⟨ybc (by rw [HS.out, if_pos (ybu s[a] 47 (by decide) (by decide) k12)]; rfl), rfl⟩
    rcases Bool.eq_false_or_eq_true ((s[a].toNat : Int) == 37) with k13 | k13
    · go_enter Tryz.func97, Tryz.ntmps97
      go_wp2
      go_ret
      exact ⟨ybc (by rw [HS.out, if_pos (ybu s[a] 37 (by decide) (by decide) k13)]; rfl), rfl⟩
    rcases Bool.eq_false_or_eq_true ((s[a].toNat : Int) == 33) with k14 | k14
    · go_enter Tryz.func97, Tryz.ntmps97
      go_wp2
      go_ret
      exact ⟨ybc (by rw [HS.out, if_pos (ybu s[a] 33 (by decide) (by decide) k14)]; rfl), rfl⟩
    · go_enter Tryz.func97, Tryz.ntmps97
      go_wp2
      go_ret
      exact ⟨ybc (by rw [HS.out, if_neg (by rw [sign1_no s[a] k0 k1 k2 k3 k4 k5 k6 k7 k8 k9 k10 k11 k12 k13 k14]; decide)]; rfl), rfl⟩
end Go.Proofs.YtcpgpiabeimefaaGreatDoor
set_option maxRecDepth 100000
namespace Go.Proofs.YtcpgpiabeimefaaGreatDoor
open Go.RowKit

set_option maxHeartbeats 1000000 in
theorem while_word (s : ByteArray) (a : Nat) (pa pt : Addr) (w : World) (hs : s.size ≤ 20000) (ha : a ≤ s.size) (hpa : w.cell? pa = some (.int .i64 a)) (hpt : w.cell? pt = some (.string s)) :
    Calls Tryz.prog 78 #[.func (.func 75) #[] #[], .pointer (some pa), .pointer (some pt)] w fun e w' => e = .returned (.int .i64 (ydv ydx s a)) ∧ w = w' := by
  go_enter Tryz.func78, Tryz.ntmps78
  go_wp2
  go_loop [5] (fun i => ∃ k : Nat, k ≤ s.size ∧ i = .int .i64 k ∧ Hid (ydv ydx s a = ydv ydx s k)) (fun i => s.size - (intOf i).toNat)
  case atStart => exact ⟨a, ha, rfl, rfl⟩
  case round =>
    obtain ⟨k, hk, rfl, hk2⟩ := hrel
    by_cases hlt : k < s.size
    · go_wp2_with (go_at_call 75; refine (inWord_any _ _).mono ?_; rintro e w' ⟨rfl, rfl⟩)
      · exact ⟨⟨k + 1, by omega, by go_num, hk2.out.trans (runTo_yes _ s k hlt (by assumption))⟩, by simp [intOf]; omega⟩
      · go_ret
        rw [hk2.out, runTo_no _ s k hlt (by assumption)]
        exact ⟨rfl, rfl⟩
    · go_wp2
      go_ret
      rw [hk2.out, runTo_end _ _ _ (by omega)]
      exact ⟨rfl, rfl⟩
set_option maxHeartbeats 1000000 in
theorem while_digit (s : ByteArray) (a : Nat) (pa pt : Addr) (w : World) (hs : s.size ≤ 20000) (ha : a ≤ s.size) (hpa : w.cell? pa = some (.int .i64 a)) (hpt : w.cell? pt = some (.string s)) :
    Calls Tryz.prog 78 #[.func (.func 79) #[] #[], .pointer (some pa), .pointer (some pt)] w fun e w' => e = .returned (.int .i64 (ydv ybo s a)) ∧ w = w' := by
  go_enter Tryz.func78, Tryz.ntmps78
  go_wp2
  go_loop [5] (fun i => ∃ k : Nat, k ≤ s.size ∧ i = .int .i64 k ∧ Hid (ydv ybo s a = ydv ybo s k)) (fun i => s.size - (intOf i).toNat)
  case atStart => exact ⟨a, ha, rfl, rfl⟩
  case round =>
    obtain ⟨k, hk, rfl, hk2⟩ := hrel
    by_cases hlt : k < s.size
    · go_wp2_with (go_at_call 79; refine (digit_any _ _).mono ?_; rintro e w' ⟨rfl, rfl⟩)
      · exact ⟨⟨k + 1, by omega, by go_num, hk2.out.trans (runTo_yes _ s k hlt (by assumption))⟩, by simp [intOf]; omega⟩
      · go_ret
        rw [hk2.out, runTo_no _ s k hlt (by assumption)]
        exact ⟨rfl, rfl⟩
    · go_wp2
      go_ret
      rw [hk2.out, runTo_end _ _ _ (by omega)]
      exact ⟨rfl, rfl⟩

def NextRet (s : ByteArray) (a : Nat) (w : World) (e : Ending) (w' : World) : Prop :=
  Below w.heap.size w w' ∧
  ((∃ k n v : Nat, tokL (yal s a) = .ok (k, n, v) ∧ e = .returned (.tuple #[.agg #[.int .i64 k, .int .i64 a, .int .i64 ((a + n : Nat) : Int), .int .i64 v], .int .i64 0])) ∨
   (∃ x : Nat, tokL (yal s a) = .error x ∧ 1 ≤ x ∧ x ≤ 5 ∧ e = .returned (.tuple #[.agg #[.int .i64 0, .int .i64 0, .int .i64 0, .int .i64 0], .int .i64 x])))

theorem tok_word_bad (s : ByteArray) (a : Nat) (h : a < s.size) (hl : ycm s[a] = true) (h24 : 24 < ydv ydx s a - a) : tokL (yal s a) = .error 5 := by
  unfold ydv at h24
  rw [ybq s a h] at *
  rw [tokL, if_pos hl, if_pos (by omega)]
theorem tok_word (s : ByteArray) (a : Nat) (h : a < s.size) (hl : ycm s[a] = true) (h24 : ¬ 24 < ydv ydx s a - a) : tokL (yal s a) = .ok (1, ydv ydx s a - a, 0) := by
  unfold ydv at *
  rw [ybq s a h] at *
  rw [tokL, if_pos hl, if_neg (by omega), show a + runL ydx (s[a] :: yal s (a + 1)) - a = runL ydx (s[a] :: yal s (a + 1)) by omega]
theorem run_eq (p : UInt8 → Bool) (s : ByteArray) (a : Nat) : ydv p s a - a = runL p (yal s a) := by unfold ydv; omega
theorem tok_num_bad (s : ByteArray) (a : Nat) (h : a < s.size) (hl : ycm s[a] = false) (hd : ybo s[a] = true) (hn : numRes (yal (s.extract a (ydv ybo s a)) 0) = none) : tokL (yal s a) = .error 2 := by
  unfold yal at hn
  rw [List.drop_zero, Lib.extract_data, run_eq] at hn
  rw [show s.data.toList.drop a = yal s a from rfl] at hn
  rw [ybq s a h] at *
  simp only [tokL]
  rw [if_neg (by simp [hl]), if_pos hd, hn]
theorem tok_num (s : ByteArray) (a v : Nat) (h : a < s.size) (hl : ycm s[a] = false) (hd : ybo s[a] = true) (hn : numRes (yal (s.extract a (ydv ybo s a)) 0) = some v) : tokL (yal s a) = .ok (2, ydv ybo s a - a, v) := by
  rw [run_eq]
  unfold yal at hn
  rw [List.drop_zero, Lib.extract_data, run_eq] at hn
  rw [show s.data.toList.drop a = yal s a from rfl] at hn
  rw [ybq s a h] at *
  simp only [tokL]
  rw [if_neg (by simp [hl]), if_pos hd, hn]
theorem tok_sign_bad (s : ByteArray) (a : Nat) (h : a < s.size) (hl : ycm s[a] = false) (hd : ybo s[a] = false) (hn : yfe (yal s a) = 0) : tokL (yal s a) = .error 4 := by
  rw [ybq s a h] at *
  rw [tokL, if_neg (by simp [hl]), if_neg (by simp [hd]), if_pos hn]
theorem tok_sign (s : ByteArray) (a : Nat) (h : a < s.size) (hl : ycm s[a] = false) (hd : ybo s[a] = false) (hn : ¬ yfe (yal s a) = 0) : tokL (yal s a) = .ok (3, yfe (yal s a), 0) := by
  rw [ybq s a h] at *
  rw [tokL, if_neg (by simp [hl]), if_neg (by simp [hd]), if_neg hn]
theorem digits_of (s : ByteArray) (a : Nat) : ∀ c ∈ yal (s.extract a (ydv ybo s a)) 0, ybo c = true := by
  unfold yal
  rw [List.drop_zero, Lib.extract_data, run_eq]
  exact run_all ybo _
theorem size_extract (s : ByteArray) (a b : Nat) (h : b ≤ s.size) : (s.extract a b).size = b - a := by
  rw [ByteArray.size_extract]; omega
theorem bytes_tail (s : ByteArray) (a : Nat) : yal (s.extract a s.size) 0 = yal s a := by
  unfold yal
  rw [List.drop_zero, Lib.extract_data, List.take_of_length_le]
  rw [List.length_drop, ← Lib.size_eq]; exact Nat.le_refl _

theorem below3 (w : World) (o1 o2 o3 : Obj) : Below w.heap.size w (((w.alloc o1).alloc o2).alloc o3) :=
  (((Below.refl _ _).alloc (Nat.le_refl _) _).alloc (by simp) _).alloc (by simp; omega) _

set_option maxHeartbeats 1000000 in
theorem next_any (s : ByteArray) (a : Nat) (w : World) (hs : s.size ≤ 20000) (ha : a < s.size) :
    Calls Tryz.prog 42 #[.string s, .int .i64 a] w (NextRet s a w) := by
  cases hl : ycm s[a]
  · cases hd : ybo s[a]
    · have HB := Lib.hid (bytes_tail s a)
      have hz : 0 < (s.extract a s.size).size := by rw [size_extract _ _ _ (Nat.le_refl _)]; omega
      have hz2 : (s.extract a s.size).size ≤ 20000 := by rw [size_extract _ _ _ (Nat.le_refl _)]; omega
      have hsl := signL_le (yal s a)
      rw [ycf] at hsl
      go_enter Tryz.func42, Tryz.ntmps42
      go_wp2_with (first | (go_at_call 74; refine (letter_any _ _).mono ?_; rintro e w' ⟨rfl, rfl⟩) | (go_at_call 79; refine (digit_any _ _).mono ?_; rintro e w' ⟨rfl, rfl⟩) | (go_at_call 81; refine (sign_any _ _ hz2 hz).mono ?_; rintro e w' ⟨rfl, hbl⟩; rw [HB.out]; obtain ⟨hcl, hfz⟩ := bcell hbl; have hsz := hbl.size; simp at hsz))
      all_goals have hB : Below w.heap.size w w' := (below3 _ _ _ _).trans (hbl.mono (by simp; omega))
      · have h0 : yfe (yal s a) = 0 := by
          have : ((yfe (yal s a) : Int) == 0) = true := by assumption
          simp at this; exact this
        refine bodyPost_ret (v := .tuple #[.agg #[.int .i64 0, .int .i64 0, .int .i64 0, .int .i64 0], .int .i64 4]) (by simp [results, Tryz.results42, go_sem, hcl]) rfl ⟨?_, .inr ⟨4, tok_sign_bad s a ha hl hd h0, by omega, by omega, rfl⟩⟩
        repeat (first | exact hB | refine Below.setCell ?_ (by simp; omega) _)
      · have h0 : ¬ yfe (yal s a) = 0 := by
          have : ((yfe (yal s a) : Int) == 0) = false := by assumption
          simp at this; exact this
        refine bodyPost_ret (v := .tuple #[.agg #[.int .i64 3, .int .i64 a, .int .i64 ((a + yfe (yal s a) : Nat) : Int), .int .i64 0], .int .i64 0]) (by simp [results, Tryz.results42, go_sem, hcl]) rfl ⟨?_, .inl ⟨3, _, 0, tok_sign s a ha hl hd h0, rfl⟩⟩
        repeat (first | exact hB | refine Below.setCell ?_ (by simp; omega) _)
    · have hb := runTo_bd ybo s a (by omega)
      have hb1 := hb.1
      have hb2 := hb.2
      clear hb
      have hp := runTo_pos ybo s a ha hd
      have hz : 0 < (s.extract a (ydv ybo s a)).size := by rw [size_extract _ _ _ hb2]; omega
      have hz2 : (s.extract a (ydv ybo s a)).size ≤ 20000 := by rw [size_extract _ _ _ hb2]; omega
      have HD := Lib.hid (digits_of s a)
      go_enter Tryz.func42, Tryz.ntmps42
      go_wp2_with (first | (go_at_call 74; refine (letter_any _ _).mono ?_; rintro e w' ⟨rfl, rfl⟩) | (go_at_call 79; refine (digit_any _ _).mono ?_; rintro e w' ⟨rfl, rfl⟩) | (go_at_call 78; refine (while_digit s a _ _ _ hs (by omega) (by go_simp) (by go_simp)).mono ?_; rintro e w' ⟨rfl, rfl⟩) | (go_at_call 80; refine (number_any _ _ hz2 hz HD).mono ?_; rintro e w' ⟨rfl, ⟨v, hv, rfl⟩ | ⟨v, hv, rfl⟩⟩ <;> have HV := Lib.hid hv <;> clear hv))
      · refine bodyPost_ret (v := .tuple #[.agg #[.int .i64 2, .int .i64 a, .int .i64 (ydv ybo s a), .int .i64 v], .int .i64 0]) (by simp [results, Tryz.results42, go_sem]) rfl ⟨below3 _ _ _ _, .inl ⟨2, _, v, tok_num s a v ha hl hd HV.out, ?_⟩⟩
        rw [show a + (ydv ybo s a - a) = ydv ybo s a by omega]; rfl
      · refine bodyPost_ret (v := .tuple #[.agg #[.int .i64 0, .int .i64 0, .int .i64 0, .int .i64 0], .int .i64 2]) (by simp [results, Tryz.results42, go_sem]) rfl ⟨below3 _ _ _ _, .inr ⟨2, tok_num_bad s a ha hl hd HV.out, by omega, by omega, rfl⟩⟩
  · have hb := runTo_bd ydx s a (by omega)
    have hb1 := hb.1
    have hb2 := hb.2
    clear hb
    go_enter Tryz.func42, Tryz.ntmps42
    go_wp2_with (first | (go_at_call 74; refine (letter_any _ _).mono ?_; rintro e w' ⟨rfl, rfl⟩) | (go_at_call 78; refine (while_word s a _ _ _ hs (by omega) (by go_simp) (by go_simp)).mono ?_; rintro e w' ⟨rfl, rfl⟩))
    · refine bodyPost_ret (v := .tuple #[.agg #[.int .i64 0, .int .i64 0, .int .i64 0, .int .i64 0], .int .i64 5]) (by simp [results, Tryz.results42, go_sem]) rfl ⟨below3 _ _ _ _, .inr ⟨5, tok_word_bad s a ha hl (by omega), by omega, by omega, rfl⟩⟩
    · refine bodyPost_ret (v := .tuple #[.agg #[.int .i64 1, .int .i64 a, .int .i64 (ydv ydx s a), .int .i64 0], .int .i64 0]) (by simp [results, Tryz.results42, go_sem]) rfl ⟨below3 _ _ _ _, .inl ⟨1, _, 0, tok_word s a ha hl (by omega), ?_⟩⟩
      rw [show a + (ydv ydx s a - a) = ydv ydx s a by omega]; rfl
end Go.Proofs.YtcpgpiabeimefaaGreatDoor
set_option maxRecDepth 100000
namespace Go.Proofs.YtcpgpiabeimefaaGreatDoor
open Go.RowKit

set_option maxHeartbeats 1000000 in
theorem rtoken_word (s : ByteArray) (a : Nat) (w : World) (hs : s.size ≤ 20000) (ha : a < s.size) (hl : ycm s[a] = true) :
    Calls Tryz.prog 56 #[.string s, .int .i64 a] w (NextRet s a w) := by
  have HW : Hid (ydv ydx s a = ydv ydx s (a + 1)) := Lib.hid (runTo_yes ydx s a ha (by simp [ydx, hl]))
  go_enter Tryz.func56, Tryz.ntmps56
  go_wp2_with (first | (go_at_call 92; refine (rletter_any _ _).mono ?_; rintro e w' ⟨rfl, rfl⟩))
  go_loopg [] (s.size - (a + 1)) (fun m wr => ∃ k : Nat, a < k ∧ k ≤ s.size ∧ Hid (m = s.size - k) ∧ Hid (ydv ydx s a = ydv ydx s k) ∧ wr = (w.alloc (.cells #[.int .i64 0, .int .i64 0, .int .i64 0, .int .i64 0] 68)).alloc (.cells #[.int .i64 1, .int .i64 a, .int .i64 k, .int .i64 0] 68))
  case atStart => exact ⟨a + 1, by omega, by omega, rfl, HW, rfl⟩
  case round =>
    obtain ⟨k, hk, hk', hm, hk2, rfl⟩ := hrel
    by_cases hlt : k < s.size
    · cases hp : ydx s[k]
      · have HE : Hid (ydv ydx s a = k) := Lib.hid (hk2.out.trans (runTo_no _ s k hlt hp))
        by_cases h24 : 24 < k - a
        · go_wp2_with (first | (go_at_call 93; refine (rinner_any _ _).mono ?_; rintro e w' ⟨rfl, rfl⟩))
          refine bodyPost_ret (v := .tuple #[.agg #[.int .i64 0, .int .i64 0, .int .i64 0, .int .i64 0], .int .i64 5]) (by simp [results, Tryz.results56, go_sem]) rfl ⟨?_, .inr ⟨5, tok_word_bad s a ha hl (by rw [HE.out]; omega), by omega, by omega, rfl⟩⟩
          repeat (first | exact Below.refl _ _ | refine Below.setCell ?_ (by simp) _ | refine Below.alloc ?_ (by simp) _)
        · go_wp2_with (first | (go_at_call 93; refine (rinner_any _ _).mono ?_; rintro e w' ⟨rfl, rfl⟩))
          refine bodyPost_ret (v := .tuple #[.agg #[.int .i64 1, .int .i64 a, .int .i64 k, .int .i64 0], .int .i64 0]) (by simp [results, Tryz.results56, go_sem]) rfl ⟨?_, .inl ⟨1, _, 0, tok_word s a ha hl (by rw [HE.out]; omega), ?_⟩⟩
          · repeat (first | exact Below.refl _ _ | refine Below.setCell ?_ (by simp) _ | refine Below.alloc ?_ (by simp) _)
          · rw [HE.out, show a + (k - a) = k by omega]; rfl
      · go_wp2_with (first | (go_at_call 93; refine (rinner_any _ _).mono ?_; rintro e w' ⟨rfl, rfl⟩))
        go_roundg (s.size - (k + 1))
        case measure => have := hm.out; omega
        case rel => exact ⟨k + 1, by omega, by omega, rfl, hk2.out.trans (runTo_yes _ s k hlt hp), by go_num⟩
    · have HE : Hid (ydv ydx s a = k) := Lib.hid (hk2.out.trans (runTo_end _ s k (by omega)))
      by_cases h24 : 24 < k - a
      · go_wp2_with (first | (go_at_call 93; refine (rinner_any _ _).mono ?_; rintro e w' ⟨rfl, rfl⟩))
        refine bodyPost_ret (v := .tuple #[.agg #[.int .i64 0, .int .i64 0, .int .i64 0, .int .i64 0], .int .i64 5]) (by simp [results, Tryz.results56, go_sem]) rfl ⟨?_, .inr ⟨5, tok_word_bad s a ha hl (by rw [HE.out]; omega), by omega, by omega, rfl⟩⟩
        repeat (first | exact Below.refl _ _ | refine Below.setCell ?_ (by simp) _ | refine Below.alloc ?_ (by simp) _)
      · go_wp2_with (first | (go_at_call 93; refine (rinner_any _ _).mono ?_; rintro e w' ⟨rfl, rfl⟩))
        refine bodyPost_ret (v := .tuple #[.agg #[.int .i64 1, .int .i64 a, .int .i64 k, .int .i64 0], .int .i64 0]) (by simp [results, Tryz.results56, go_sem]) rfl ⟨?_, .inl ⟨1, _, 0, tok_word s a ha hl (by rw [HE.out]; omega), ?_⟩⟩
        · repeat (first | exact Below.refl _ _ | refine Below.setCell ?_ (by simp) _ | refine Below.alloc ?_ (by simp) _)
        · rw [HE.out, show a + (k - a) = k by omega]; rfl

set_option maxHeartbeats 1000000 in
theorem rtoken_num (s : ByteArray) (a : Nat) (w : World) (hs : s.size ≤ 20000) (ha : a < s.size) (hl : ycm s[a] = false) (hd : ybo s[a] = true) :
    Calls Tryz.prog 56 #[.string s, .int .i64 a] w (NextRet s a w) := by
  have HW : Hid (ydv ybo s a = ydv ybo s (a + 1)) := Lib.hid (runTo_yes ybo s a ha hd)
  go_enter Tryz.func56, Tryz.ntmps56
  go_wp2_with (first | (go_at_call 92; refine (rletter_any _ _).mono ?_; rintro e w' ⟨rfl, rfl⟩) | (go_at_call 95; refine (rdigit_any _ _).mono ?_; rintro e w' ⟨rfl, rfl⟩))
  go_loopg [] (s.size - (a + 1)) (fun m wr => ∃ k : Nat, a < k ∧ k ≤ s.size ∧ Hid (m = s.size - k) ∧ Hid (ydv ybo s a = ydv ybo s k) ∧ wr = (w.alloc (.cells #[.int .i64 0, .int .i64 0, .int .i64 0, .int .i64 0] 68)).alloc (.cells #[.int .i64 2, .int .i64 a, .int .i64 k, .int .i64 0] 68))
  case atStart => exact ⟨a + 1, by omega, by omega, rfl, HW, rfl⟩
  case round =>
    obtain ⟨k, hk, hk', hm, hk2, rfl⟩ := hrel
    by_cases hlt : k < s.size
    · cases hp : ybo s[k]
      · have HE : Hid (ydv ybo s a = k) := Lib.hid (hk2.out.trans (runTo_no _ s k hlt hp))
        have hz : 0 < (s.extract a k).size := by rw [size_extract _ _ _ (by omega)]; omega
        have hz2 : (s.extract a k).size ≤ 20000 := by rw [size_extract _ _ _ (by omega)]; omega
        have HD : Hid (∀ c ∈ yal (s.extract a k) 0, ybo c = true) := by have := digits_of s a; rw [HE.out] at this; exact this
        go_wp2_with (first | (go_at_call 95; refine (rdigit_any _ _).mono ?_; rintro e w' ⟨rfl, rfl⟩) | (go_at_call 96; refine (rnumber_any _ _ hz2 hz HD).mono ?_; rintro e w' ⟨rfl, ⟨v, hv, rfl⟩ | ⟨v, hv, rfl⟩⟩ <;> have HV := Lib.hid hv <;> clear hv))
        · have hn := tok_num s a v ha hl hd (by rw [HE.out]; exact HV.out)
          refine bodyPost_ret (v := .tuple #[.agg #[.int .i64 2, .int .i64 a, .int .i64 k, .int .i64 v], .int .i64 0]) (by simp [results, Tryz.results56, go_sem]) rfl ⟨?_, .inl ⟨2, _, v, hn, ?_⟩⟩
          · repeat (first | exact Below.refl _ _ | refine Below.setCell ?_ (by simp) _ | refine Below.alloc ?_ (by simp) _)
          · rw [HE.out, show a + (k - a) = k by omega]; rfl
        · have hn := tok_num_bad s a ha hl hd (by rw [HE.out]; exact HV.out)
          refine bodyPost_ret (v := .tuple #[.agg #[.int .i64 0, .int .i64 0, .int .i64 0, .int .i64 0], .int .i64 2]) (by simp [results, Tryz.results56, go_sem]) rfl ⟨?_, .inr ⟨2, hn, by omega, by omega, rfl⟩⟩
          repeat (first | exact Below.refl _ _ | refine Below.setCell ?_ (by simp) _ | refine Below.alloc ?_ (by simp) _)
      · go_wp2_with (first | (go_at_call 95; refine (rdigit_any _ _).mono ?_; rintro e w' ⟨rfl, rfl⟩))
        go_roundg (s.size - (k + 1))
        case measure => have := hm.out; omega
        case rel => exact ⟨k + 1, by omega, by omega, rfl, hk2.out.trans (runTo_yes _ s k hlt hp), by go_num⟩
    · have HE : Hid (ydv ybo s a = k) := Lib.hid (hk2.out.trans (runTo_end _ s k (by omega)))
      have hz : 0 < (s.extract a k).size := by rw [size_extract _ _ _ (by omega)]; omega
      have hz2 : (s.extract a k).size ≤ 20000 := by rw [size_extract _ _ _ (by omega)]; omega
      have HD : Hid (∀ c ∈ yal (s.extract a k) 0, ybo c = true) := by have := digits_of s a; rw [HE.out] at this; exact this
      go_wp2_with (first | (go_at_call 95; refine (rdigit_any _ _).mono ?_; rintro e w' ⟨rfl, rfl⟩) | (go_at_call 96; refine (rnumber_any _ _ hz2 hz HD).mono ?_; rintro e w' ⟨rfl, ⟨v, hv, rfl⟩ | ⟨v, hv, rfl⟩⟩ <;> have HV := Lib.hid hv <;> clear hv))
      · have hn := tok_num s a v ha hl hd (by rw [HE.out]; exact HV.out)
        refine bodyPost_ret (v := .tuple #[.agg #[.int .i64 2, .int .i64 a, .int .i64 k, .int .i64 v], .int .i64 0]) (by simp [results, Tryz.results56, go_sem]) rfl ⟨?_, .inl ⟨2, _, v, hn, ?_⟩⟩
        · repeat (first | exact Below.refl _ _ | refine Below.setCell ?_ (by simp) _ | refine Below.alloc ?_ (by simp) _)
        · rw [HE.out, show a + (k - a) = k by omega]; rfl
      · have hn := tok_num_bad s a ha hl hd (by rw [HE.out]; exact HV.out)
        refine bodyPost_ret (v := .tuple #[.agg #[.int .i64 0, .int .i64 0, .int .i64 0, .int .i64 0], .int .i64 2]) (by simp [results, Tryz.results56, go_sem]) rfl ⟨?_, .inr ⟨2, hn, by omega, by omega, rfl⟩⟩
        repeat (first | exact Below.refl _ _ | refine Below.setCell ?_ (by simp) _ | refine Below.alloc ?_ (by simp) _)

set_option maxHeartbeats 1000000 in
theorem rtoken_sign (s : ByteArray) (a : Nat) (w : World) (hs : s.size ≤ 20000) (ha : a < s.size) (hl : ycm s[a] = false) (hd : ybo s[a] = false) :
    Calls Tryz.prog 56 #[.string s, .int .i64 a] w (NextRet s a w) := by
  have hsl := signL_le (yal s a)
  rw [ycf] at hsl
  by_cases h0 : yfe (yal s a) = 0
  · have h1 : ¬ 0 < yfe (yal s a) := by omega
    have H0 := Lib.hid h0
    clear h0
    go_enter Tryz.func56, Tryz.ntmps56
    go_wp2_with (first | (go_at_call 92; refine (rletter_any _ _).mono ?_; rintro e w' ⟨rfl, rfl⟩) | (go_at_call 95; refine (rdigit_any _ _).mono ?_; rintro e w' ⟨rfl, rfl⟩) | (go_at_call 97; refine (rsign_any s a _ hs ha).mono ?_; rintro e w' ⟨rfl, rfl⟩))
    refine bodyPost_ret (v := .tuple #[.agg #[.int .i64 0, .int .i64 0, .int .i64 0, .int .i64 0], .int .i64 4]) (by simp [results, Tryz.results56, go_sem]) rfl ⟨?_, .inr ⟨4, tok_sign_bad s a ha hl hd H0.out, by omega, by omega, rfl⟩⟩
    repeat (first | exact Below.refl _ _ | refine Below.setCell ?_ (by simp) _ | refine Below.alloc ?_ (by simp) _)
  · have h1 : 0 < yfe (yal s a) := by omega
    have H0 := Lib.hid h0
    clear h0
    go_enter Tryz.func56, Tryz.ntmps56
    go_wp2_with (first | (go_at_call 92; refine (rletter_any _ _).mono ?_; rintro e w' ⟨rfl, rfl⟩) | (go_at_call 95; refine (rdigit_any _ _).mono ?_; rintro e w' ⟨rfl, rfl⟩) | (go_at_call 97; refine (rsign_any s a _ hs ha).mono ?_; rintro e w' ⟨rfl, rfl⟩))
    refine bodyPost_ret (v := .tuple #[.agg #[.int .i64 3, .int .i64 a, .int .i64 ((a + yfe (yal s a) : Nat) : Int), .int .i64 0], .int .i64 0]) (by simp [results, Tryz.results56, go_sem]) rfl ⟨?_, .inl ⟨3, _, 0, tok_sign s a ha hl hd H0.out, ?_⟩⟩
    · repeat (first | exact Below.refl _ _ | refine Below.setCell ?_ (by simp) _ | refine Below.alloc ?_ (by simp) _)
    · rfl

theorem rtoken_any (s : ByteArray) (a : Nat) (w : World) (hs : s.size ≤ 20000) (ha : a < s.size) :
    Calls Tryz.prog 56 #[.string s, .int .i64 a] w (NextRet s a w) := by
  cases hl : ycm s[a]
  · cases hd : ybo s[a]
    · exact rtoken_sign s a w hs ha hl hd
    · exact rtoken_num s a w hs ha hl hd
  · exact rtoken_word s a w hs ha hl
end Go.Proofs.YtcpgpiabeimefaaGreatDoor
set_option maxRecDepth 100000
namespace Go.Proofs.YtcpgpiabeimefaaGreatDoor
open Go.RowKit

def ydz (ts : List Tok) : List Value := ts.flatMap fun t => [.int .i64 t.kind, .int .i64 t.from_, .int .i64 t.to, .int .i64 t.num]
theorem tokCells_snoc (ts : List Tok) (t : Tok) : ydz (ts ++ [t]) = ydz ts ++ [.int .i64 t.kind, .int .i64 t.from_, .int .i64 t.to, .int .i64 t.num] := by
  simp [ydz]

def ScanRet (s : ByteArray) (w : World) (e : Ending) (w' : World) : Prop :=
  Below w.heap.size w w' ∧
  ((∃ (ts : List Tok) (v : Value), scanF s = .ok ts ∧ ts.length ≤ 4096 ∧ e = .returned (.tuple #[v, .int .i64 0, .int .i64 0]) ∧ w'.ownsRow w.heap.size 68 4 v ts.length (ydz ts)) ∨
   (∃ p x : Nat, scanF s = .error (p, x) ∧ p ≤ s.size ∧ 1 ≤ x ∧ x ≤ 5 ∧ e = .returned (.tuple #[.slice none 0 0, .int .i64 p, .int .i64 x])))

theorem infoTok : (Tryz.prog.info? 68).map (fun i => (i.zero, i.size, i.bytes)) = some (some (.agg #[.int .i64 0, .int .i64 0, .int .i64 0, .int .i64 0]), 4, 32) := by kernel_rfl

set_option maxHeartbeats 1000000 in
theorem scan_any (s : ByteArray) (w : World) (hs : s.size ≤ 9223372036854775807) :
    Calls Tryz.prog 20 #[.string s] w (ScanRet s w) := by
  by_cases h16 : 16384 < s.size
  · go_enter Tryz.func20, Tryz.ntmps20
    go_wp2
    go_ret3
    exact ⟨Below.refl _ _, .inr ⟨0, 3, by unfold scanF; rw [if_pos h16], by omega, by omega, by omega, rfl⟩⟩
  · have HF := Lib.hid (restScan_start s (by omega))
    obtain ⟨i0, hi, hz0, hz1, hz2⟩ := info_parts infoTok
    have Hi := Lib.hid hi
    have Hz0 := Lib.hid hz0
    have Hz1 := Lib.hid hz1
    have Hz2 := Lib.hid hz2
    clear hi hz0 hz1 hz2
    have hk0 := skipTo_bd s false 0 (by omega)
    go_enter Tryz.func20, Tryz.ntmps20
    go_wp2_with (go_at_call 41; refine (skip_any s 0 _ (by omega) (by omega)).mono ?_; rintro e w' ⟨rfl, rfl⟩)
    go_loopw [5, 6, 7, 8] (fun v at_ _ _ wr => ∃ (p : Nat) (out : List Tok), p ≤ s.size ∧ at_ = .int .i64 (ybi s false p) ∧ out.length ≤ 4096 ∧ Hid (scanF s = yet s out p) ∧ wr.ownsRow w.heap.size 68 4 v out.length (ydz out) ∧ Below w.heap.size w wr) (fun _ at_ _ _ _ => s.size - (intOf at_).toNat)
    case atStart => exact ⟨0, [], by omega, rfl, by simp, HF, World.ownsRow_nil _ _ _ _, Below.refl _ _⟩
    case round =>
      obtain ⟨p, out, hp, rfl, hout, hrest, hown, hbel⟩ := hrel
      have hb := skipTo_bd s false p hp
      by_cases hlt : ybi s false p < s.size
      · obtain ⟨sa, scap, rfl⟩ := own_shape hown
        by_cases hfull : out.length = 4096
        · have hf : ((out.length : Int) == 4096) = true := by simp; omega
          have HFu := Lib.hid hfull
          clear hfull
          go_wp2
          go_ret3
          exact ⟨hbel, .inr ⟨ybi s false p, 3, by rw [hrest.out, restScan_full s out p hlt HFu.out], hb.2, by omega, by omega, rfl⟩⟩
        · have hf : ((out.length : Int) == 4096) = false := by simp; omega
          go_wp2_with (first | (at_builtin; refine wpList_append_own _ rfl (.tmp 32) (.tmp 34) 39 rfl w.heap.size 68 i0 (.agg #[.int .i64 0, .int .i64 0, .int .i64 0, .int .i64 0]) 4 32 Tryz.underlying39 Hi.out Hz0.out Hz1.out Hz2.out rfl (by decide) _ _ _ rfl (((yew hown hbl).alloc _).alloc _) ⟨w1.heap.size + 1, 0, none⟩ 1 1 [.int .i64 k, .int .i64 (ybi s false p), .int .i64 ((ybi s false p + n : Nat) : Int), .int .i64 v] rfl rfl ?c1 ?c2 ?c3 ?c4 ?c5 ?_) | (go_at_call 42; refine (next_any s (ybi s false p) _ (by omega) hlt).mono ?_; rintro e w1 ⟨hbl, ⟨k, n, v, ht, rfl⟩ | ⟨x, ht, hx1, hx2, rfl⟩⟩ <;> have HT := Lib.hid ht <;> clear ht))
          case c1 => exact new_cells (w1.alloc _) _ _ _ (by simp)
          case c2 => intro u hu; simp at hu; rcases hu with rfl | rfl | rfl | rfl <;> rfl
          case c3 => unfold maxLen; omega
          case c4 => omega
          case c5 => have h1 := hbel.size; have h2 := hbl.size; simp; omega
          · have htb := tokL_bd HT.out
            rw [ycf] at htb
            intro v' w' hown' hgrow _
            obtain ⟨q, hq⟩ : ∃ q : Nat, q = ybi s false p + n := ⟨_, rfl⟩
            have hcell : w'.cell? ⟨w1.heap.size, 2, none⟩ = some (.int .i64 (q : Int)) := hgrow.cell (by rw [hq]; simp) (own_lt hown _ hbl.size)
            have hb' : Below w.heap.size w w' := ((((hbel.trans (hbl.mono hbel.size)).alloc (Nat.le_trans hbel.size hbl.size) _).alloc (by have h1 := hbel.size; have h2 := hbl.size; simp; omega) _).grown hgrow (by have h1 := hbel.size; have h2 := hbl.size; simp; omega) (own_ge hown))
            have hq1 : ybi s false p < q := by omega
            have hq2 : q ≤ s.size := by omega
            have hs2 := skipTo_bd s false q hq2
            have HR : Hid (scanF s = yet s (out ++ [⟨k, ybi s false p, q, v⟩]) q) := by rw [hq]; exact hrest.out.trans (restScan_tok s out p k n v hlt (by omega) HT.out)
            have HO : w'.ownsRow w.heap.size 68 4 v' (out ++ [(⟨k, ybi s false p, q, v⟩ : Tok)]).length (ydz (out ++ [⟨k, ybi s false p, q, v⟩])) := by
              rw [tokCells_snoc, List.length_append]; rw [hq]; exact hown'
            clear hown' hgrow hq
            go_wp2_with (go_at_call 41; refine (skip_any s q _ (by omega) hq2).mono ?_; rintro e w' ⟨rfl, rfl⟩)
            exact ⟨⟨q, _, hq2, rfl, by rw [List.length_append]; simp; omega, HR, HO, hb'⟩, by simp [intOf]; omega⟩
          · go_ret3
            exact ⟨(hbel.trans (hbl.mono hbel.size)).alloc (Nat.le_trans hbel.size hbl.size) _, .inr ⟨ybi s false p, x, by rw [hrest.out, restScan_err s out p x hlt (by omega) HT.out], hb.2, hx1, hx2, rfl⟩⟩
      · go_wp2
        go_ret3
        exact ⟨hbel, .inl ⟨out, u5, by rw [hrest.out, restScan_end s out p (by omega)], hout, rfl, hown⟩⟩
set_option maxHeartbeats 1000000 in
theorem rscan_any (s : ByteArray) (w : World) (hs : s.size ≤ 9223372036854775807) :
    Calls Tryz.prog 28 #[.string s] w (ScanRet s w) := by
  by_cases h16 : 16384 < s.size
  · go_enter Tryz.func28, Tryz.ntmps28
    go_wp2
    go_ret3
    exact ⟨Below.refl _ _, .inr ⟨0, 3, by unfold scanF; rw [if_pos h16], by omega, by omega, by omega, rfl⟩⟩
  · have HF := Lib.hid (restScan_start s (by omega))
    obtain ⟨i0, hi, hz0, hz1, hz2⟩ := info_parts infoTok
    have Hi := Lib.hid hi
    have Hz0 := Lib.hid hz0
    have Hz1 := Lib.hid hz1
    have Hz2 := Lib.hid hz2
    clear hi hz0 hz1 hz2
    have hk0 := skipTo_bd s false 0 (by omega)
    go_enter Tryz.func28, Tryz.ntmps28
    go_wp2_with (go_at_call 55; refine (rblanks_any s 0 _ (by omega) (by omega)).mono ?_; rintro e w' ⟨rfl, rfl⟩)
    go_loopw [5, 6, 7, 8] (fun v at_ _ _ wr => ∃ (p : Nat) (out : List Tok), p ≤ s.size ∧ at_ = .int .i64 (ybi s false p) ∧ out.length ≤ 4096 ∧ Hid (scanF s = yet s out p) ∧ wr.ownsRow w.heap.size 68 4 v out.length (ydz out) ∧ Below w.heap.size w wr) (fun _ at_ _ _ _ => s.size - (intOf at_).toNat)
    case atStart => exact ⟨0, [], by omega, rfl, by simp, HF, World.ownsRow_nil _ _ _ _, Below.refl _ _⟩
    case round =>
      obtain ⟨p, out, hp, rfl, hout, hrest, hown, hbel⟩ := hrel
      have hb := skipTo_bd s false p hp
      by_cases hlt : ybi s false p < s.size
      · obtain ⟨sa, scap, rfl⟩ := own_shape hown
        by_cases hfull : out.length = 4096
        · have hf : ((out.length : Int) == 4096) = true := by simp; omega
          have HFu := Lib.hid hfull
          clear hfull
          go_wp2
          go_ret3
          exact ⟨hbel, .inr ⟨ybi s false p, 3, by rw [hrest.out, restScan_full s out p hlt HFu.out], hb.2, by omega, by omega, rfl⟩⟩
        · have hf : ((out.length : Int) == 4096) = false := by simp; omega
          go_wp2_with (first | (at_builtin; refine wpList_append_own _ rfl (.tmp 35) (.tmp 37) 39 rfl w.heap.size 68 i0 (.agg #[.int .i64 0, .int .i64 0, .int .i64 0, .int .i64 0]) 4 32 Tryz.underlying39 Hi.out Hz0.out Hz1.out Hz2.out rfl (by decide) _ _ _ rfl (((yew hown hbl).alloc _).alloc _) ⟨w1.heap.size + 1, 0, none⟩ 1 1 [.int .i64 k, .int .i64 (ybi s false p), .int .i64 ((ybi s false p + n : Nat) : Int), .int .i64 v] rfl rfl ?c1 ?c2 ?c3 ?c4 ?c5 ?_) | (go_at_call 56; refine (rtoken_any s (ybi s false p) _ (by omega) hlt).mono ?_; rintro e w1 ⟨hbl, ⟨k, n, v, ht, rfl⟩ | ⟨x, ht, hx1, hx2, rfl⟩⟩ <;> have HT := Lib.hid ht <;> clear ht))
          case c1 => exact new_cells (w1.alloc _) _ _ _ (by simp)
          case c2 => intro u hu; simp at hu; rcases hu with rfl | rfl | rfl | rfl <;> rfl
          case c3 => unfold maxLen; omega
          case c4 => omega
          case c5 => have h1 := hbel.size; have h2 := hbl.size; simp; omega
          · have htb := tokL_bd HT.out
            rw [ycf] at htb
            intro v' w' hown' hgrow _
            obtain ⟨q, hq⟩ : ∃ q : Nat, q = ybi s false p + n := ⟨_, rfl⟩
            have hcell : w'.cell? ⟨w1.heap.size, 2, none⟩ = some (.int .i64 (q : Int)) := hgrow.cell (by rw [hq]; simp) (own_lt hown _ hbl.size)
            have hb' : Below w.heap.size w w' := ((((hbel.trans (hbl.mono hbel.size)).alloc (Nat.le_trans hbel.size hbl.size) _).alloc (by have h1 := hbel.size; have h2 := hbl.size; simp; omega) _).grown hgrow (by have h1 := hbel.size; have h2 := hbl.size; simp; omega) (own_ge hown))
            have hq1 : ybi s false p < q := by omega
            have hq2 : q ≤ s.size := by omega
            have hs2 := skipTo_bd s false q hq2
            have HR : Hid (scanF s = yet s (out ++ [⟨k, ybi s false p, q, v⟩]) q) := by rw [hq]; exact hrest.out.trans (restScan_tok s out p k n v hlt (by omega) HT.out)
            have HO : w'.ownsRow w.heap.size 68 4 v' (out ++ [(⟨k, ybi s false p, q, v⟩ : Tok)]).length (ydz (out ++ [⟨k, ybi s false p, q, v⟩])) := by
              rw [tokCells_snoc, List.length_append]; rw [hq]; exact hown'
            clear hown' hgrow hq
            go_wp2_with (go_at_call 55; refine (rblanks_any s q _ (by omega) hq2).mono ?_; rintro e w' ⟨rfl, rfl⟩)
            exact ⟨⟨q, _, hq2, rfl, by rw [List.length_append]; simp; omega, HR, HO, hb'⟩, by simp [intOf]; omega⟩
          · go_ret3
            exact ⟨(hbel.trans (hbl.mono hbel.size)).alloc (Nat.le_trans hbel.size hbl.size) _, .inr ⟨ybi s false p, x, by rw [hrest.out, restScan_err s out p x hlt (by omega) HT.out], hb.2, hx1, hx2, rfl⟩⟩
      · go_wp2
        go_ret3
        exact ⟨hbel, .inl ⟨out, u5, by rw [hrest.out, restScan_end s out p (by omega)], hout, rfl, hown⟩⟩
end Go.Proofs.YtcpgpiabeimefaaGreatDoor
set_option maxRecDepth 100000
namespace Go.Proofs.YtcpgpiabeimefaaGreatDoor
open Go.RowKit

def Toks (w : World) (v : Value) (ts : List Tok) : Prop :=
  ∃ a cap, v = .slice a ts.length cap ∧ ts.length ≤ cap ∧ cap ≤ maxLen ∧
    (ts = [] ∨ ∃ g o, a = some ⟨g, o, none⟩ ∧ g < w.heap.size ∧ ∀ i t, ts[i]? = some t →
      w.cell? ⟨g, o + i * 4, none⟩ = some (.int .i64 t.kind) ∧ w.cell? ⟨g, o + i * 4 + 1, none⟩ = some (.int .i64 t.from_) ∧
      w.cell? ⟨g, o + i * 4 + 2, none⟩ = some (.int .i64 t.to) ∧ w.cell? ⟨g, o + i * 4 + 3, none⟩ = some (.int .i64 t.num))

theorem tokCells_get (ts : List Tok) : ∀ (i : Nat) (t : Tok), ts[i]? = some t →
    (ydz ts)[i * 4]? = some (.int .i64 t.kind) ∧ (ydz ts)[i * 4 + 1]? = some (.int .i64 t.from_) ∧ (ydz ts)[i * 4 + 2]? = some (.int .i64 t.to) ∧ (ydz ts)[i * 4 + 3]? = some (.int .i64 t.num) := by
  induction ts with
  | nil => intro i t h; simp at h
  | cons x ts ih =>
    intro i t h
    have e : ydz (x :: ts) = .int .i64 x.kind :: .int .i64 x.from_ :: .int .i64 x.to :: .int .i64 x.num :: ydz ts := by simp [ydz]
    rw [e]
    cases i with
    | zero => simp at h; subst h; simp
    | succ i =>
      have := ih i t (by simpa using h)
      rw [show (i + 1) * 4 = i * 4 + 1 + 1 + 1 + 1 by omega]
      simp only [List.getElem?_cons_succ]
      exact this

theorem toks_of_own {w : World} {B : Nat} {v : Value} {ts : List Tok} (h : w.ownsRow B 68 4 v ts.length (ydz ts)) : Toks w v ts := by
  obtain ⟨h1, h2⟩ := h
  rcases h2 with ⟨rfl, h2⟩ | ⟨g, cap, cur, hv, hg, hh, hle, hcap, hcs, htk⟩
  · exact ⟨none, 0, by rw [h2], by omega, by simp [maxLen], .inl (List.length_eq_zero_iff.1 h2)⟩
  · refine ⟨some ⟨g, 0, none⟩, cap, hv, hle, hcap, .inr ⟨g, 0, rfl, ?_, fun i t ht => ?_⟩⟩
    · rcases Nat.lt_or_ge g w.heap.size with h | h
      · exact h
      · simp [Array.getElem?_eq_none h] at hh
    · have hcell : ∀ j u, (ydz ts)[j]? = some u → w.cell? ⟨g, j, none⟩ = some u := by
        intro j u hu
        have hj : (cur.toList.take (ts.length * 4))[j]? = some u := by rw [htk]; exact hu
        rw [List.getElem?_take] at hj
        unfold World.cell?
        simp only [hh]
        split at hj
        · simpa using hj
        · cases hj
      obtain ⟨c0, c1, c2, c3⟩ := tokCells_get ts i t ht
      simp only [Nat.zero_add]
      exact ⟨hcell _ _ c0, hcell _ _ c1, hcell _ _ c2, hcell _ _ c3⟩

end Go.Proofs.YtcpgpiabeimefaaGreatDoor
set_option maxRecDepth 100000
namespace Go.Proofs.YtcpgpiabeimefaaGreatDoor
open Go.RowKit

theorem scan_len (left : Nat) : ∀ (p : Nat) (r : List UInt8) (ts : List Tok), scanL left p r = .ok ts → ts.length ≤ left := by
  induction left with
  | zero =>
    intro p r ts h
    rw [scanL] at h
    split at h <;> simp at h
    subst h; simp
  | succ left ih =>
    intro p r ts h
    rw [scanL] at h
    split at h
    · simp at h; subst h; simp
    · split at h
      · simp at h
      · rename_i k n v _
        generalize hq : scanL left (p + ydk false r + n) ((r.drop (ydk false r)).drop n) = q at h
        cases q with
        | error e => simp [consTok] at h
        | ok us =>
          simp [consTok] at h
          subst h
          have := ih _ _ _ hq
          simp; omega
theorem scanF_len {s : ByteArray} {ts : List Tok} (h : scanF s = .ok ts) : ts.length ≤ 4096 := by
  unfold scanF at h
  split at h
  · simp at h
  · exact scan_len _ _ _ _ h

end Go.Proofs.YtcpgpiabeimefaaGreatDoor
