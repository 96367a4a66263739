/- The walks over the lexer's small functions, of the program and of the reference: each returns what the plain function of LexMath says and leaves the memory alone. -/
import Derived.Test.YtcaliinineajkaaRows
import Derived.Test.YtcaliinineajkaaLexMath
import Derived.WalkKit
import Derived.WalkSpells
import Derived.WalkLawsBesides
import Derived.Lib.Hide
namespace Go.Proofs.Ytcaliinineajkaa
open Go.RowKit

theorem bcell {W w1 : World} (hb : Below W.heap.size W w1) : (∀ b o, b < W.heap.size → w1.cell? ⟨b, o, none⟩ = W.cell? ⟨b, o, none⟩) ∧ (∀ b o, b < W.heap.size → w1.frozen? ⟨b, o, none⟩ = W.frozen? ⟨b, o, none⟩) :=
  ⟨fun b o h => hb.cell (p := ⟨b, o, none⟩) h, fun b o h => hb.frozen (p := ⟨b, o, none⟩) h⟩
theorem ret_bool {a b : Bool} (h : a = b) : Ending.returned (.bool a) = .returned (.bool b) := by rw [h]
theorem ret_int {k : IntKind} {a b : Int} (h : a = b) : Ending.returned (.int k a) = .returned (.int k b) := by rw [h]

set_option maxHeartbeats 400000 in
theorem letter_any (c : UInt8) (w : World) :
    Calls Try.prog 25 #[.int .u8 (c.toNat : Int)] w fun e w' => e = .returned (.bool (letterB c)) ∧ w = w' := by
  go_enter Try.func25, Try.ntmps25
  go_wp2
  all_goals go_ret
  all_goals exact ⟨ret_bool (by rw [Bool.eq_iff_iff]; simp [letterB, UInt8.le_iff_toNat_le]; omega), rfl⟩

set_option maxHeartbeats 400000 in
theorem digit_any (c : UInt8) (w : World) :
    Calls Try.prog 30 #[.int .u8 (c.toNat : Int)] w fun e w' => e = .returned (.bool (digitB c)) ∧ w = w' := by
  go_enter Try.func30, Try.ntmps30
  go_wp2
  all_goals go_ret
  all_goals exact ⟨ret_bool (by rw [Bool.eq_iff_iff]; simp [digitB, UInt8.le_iff_toNat_le]; omega), rfl⟩

set_option maxHeartbeats 400000 in
theorem inWord_any (c : UInt8) (w : World) :
    Calls Try.prog 26 #[.int .u8 (c.toNat : Int)] w fun e w' => e = .returned (.bool (wordB c)) ∧ w = w' := by
  go_enter Try.func26, Try.ntmps26
  cases h1 : letterB c <;> cases h2 : digitB c
  all_goals
    go_wp2_with (first | (go_at_call 25; refine (letter_any _ _).mono ?_; rintro e w' ⟨rfl, rfl⟩) | (go_at_call 30; refine (digit_any _ _).mono ?_; rintro e w' ⟨rfl, rfl⟩))
    go_ret
    exact ⟨ret_bool (by rw [Bool.eq_iff_iff]; simp [wordB, h1, h2, ← UInt8.toNat_inj]; try omega), rfl⟩
set_option maxHeartbeats 400000 in
theorem rletter_any (c : UInt8) (w : World) :
    Calls Try.prog 27 #[.int .u8 (c.toNat : Int)] w fun e w' => e = .returned (.bool (letterB c)) ∧ w = w' := by
  go_enter Try.func27, Try.ntmps27
  go_wp2
  all_goals go_ret
  all_goals exact ⟨ret_bool (by rw [Bool.eq_iff_iff]; simp [letterB, UInt8.le_iff_toNat_le]; omega), rfl⟩

set_option maxHeartbeats 400000 in
theorem rdigit_any (c : UInt8) (w : World) :
    Calls Try.prog 33 #[.int .u8 (c.toNat : Int)] w fun e w' => e = .returned (.bool (digitB c)) ∧ w = w' := by
  go_enter Try.func33, Try.ntmps33
  go_wp2
  all_goals go_ret
  all_goals exact ⟨ret_bool (by rw [Bool.eq_iff_iff]; simp [digitB, UInt8.le_iff_toNat_le]; omega), rfl⟩

set_option maxHeartbeats 400000 in
theorem rinner_any (c : UInt8) (w : World) :
    Calls Try.prog 28 #[.int .u8 (c.toNat : Int)] w fun e w' => e = .returned (.bool (wordB c)) ∧ w = w' := by
  go_enter Try.func28, Try.ntmps28
  cases h1 : letterB c <;> cases h2 : digitB c
  all_goals
    go_wp2_with (first | (go_at_call 27; refine (rletter_any _ _).mono ?_; rintro e w' ⟨rfl, rfl⟩) | (go_at_call 33; refine (rdigit_any _ _).mono ?_; rintro e w' ⟨rfl, rfl⟩))
    go_ret
    exact ⟨ret_bool (by rw [Bool.eq_iff_iff]; simp [wordB, h1, h2, ← UInt8.toNat_inj]; try omega), rfl⟩

set_option maxHeartbeats 1000000 in
theorem skip_any (s : ByteArray) (a : Nat) (w : World) (hs : s.size ≤ 20000) (ha : a ≤ s.size) :
    Calls Try.prog 21 #[.string s, .int .i64 a] w fun e w' => e = .returned (.int .i64 (skipTo s false a)) ∧ w = w' := by
  go_enter Try.func21, Try.ntmps21
  go_wp2
  go_loop [1] (fun i => ∃ k : Nat, k ≤ s.size ∧ i = .int .i64 k ∧ Hid (skipTo s false a = skipTo s false k)) (fun i => s.size - (intOf i).toNat)
  case atStart => exact ⟨a, ha, rfl, rfl⟩
  case round =>
    obtain ⟨k, hk, rfl, hk2⟩ := hrel
    by_cases hlt : k < s.size
    · go_wp2
      all_goals try simp only [beq_iff_eq, beq_eq_false_iff_ne, ne_eq] at *
      iterate 4 exact ⟨⟨k + 1, by omega, by go_num, hk2.out.trans (skipTo_blank s k hlt (by simp [← UInt8.toNat_inj]; omega))⟩, by simp [intOf]; omega⟩
      · go_loop [1] (fun i => ∃ j : Nat, k ≤ j ∧ j ≤ s.size ∧ i = .int .i64 j ∧ (k < j ∨ (j = k ∧ s[k].toNat = 35)) ∧ Hid (skipTo s false a = skipTo s true j)) (fun i => s.size - (intOf i).toNat)
        case atStart => exact ⟨k, by omega, by omega, rfl, .inr ⟨rfl, by omega⟩, hk2.out.trans (skipTo_hash s k hlt (by simp [← UInt8.toNat_inj]; omega))⟩
        case round =>
          obtain ⟨j, hj, hj', rfl, hjk, hj2⟩ := hrel
          by_cases hlj : j < s.size
          · go_wp2
            all_goals try simp only [bne_iff_ne, bne_eq_false_iff_eq, ne_eq] at *
            · exact ⟨⟨j + 1, by omega, by omega, by go_num, .inl (by omega), hj2.out.trans (skipTo_in s j hlj (by simp [← UInt8.toNat_inj]; omega))⟩, by simp [intOf]; omega⟩
            · have hkj : k < j := by rcases hjk with h | ⟨rfl, h⟩ <;> omega
              exact ⟨⟨j, by omega, rfl, hj2.out.trans (skipTo_nl s j hlj (by simp [← UInt8.toNat_inj]; omega))⟩, by simp [intOf]; omega⟩
          · go_wp2
            exact ⟨⟨j, by omega, rfl, hj2.out.trans (by rw [skipTo_end _ _ _ (by omega), skipTo_end _ _ _ (by omega)])⟩, by simp [intOf]; omega⟩
      · go_ret
        rw [hk2.out, skipTo_stop _ _ hlt (by simp [← UInt8.toNat_inj]; omega) (by simp [← UInt8.toNat_inj]; omega)]
        exact ⟨rfl, rfl⟩
    · go_wp2
      go_ret
      rw [hk2.out, skipTo_end _ _ _ (by omega)]
      exact ⟨rfl, rfl⟩

set_option maxHeartbeats 1000000 in
theorem rblanks_any (s : ByteArray) (a : Nat) (w : World) (hs : s.size ≤ 20000) (ha : a ≤ s.size) :
    Calls Try.prog 23 #[.string s, .int .i64 a] w fun e w' => e = .returned (.int .i64 (skipTo s false a)) ∧ w = w' := by
  go_enter Try.func23, Try.ntmps23
  go_wp2
  go_loop [1] (fun i => ∃ k : Nat, k ≤ s.size ∧ i = .int .i64 k ∧ Hid (skipTo s false a = skipTo s false k)) (fun i => s.size - (intOf i).toNat)
  case atStart => exact ⟨a, ha, rfl, rfl⟩
  case round =>
    obtain ⟨k, hk, rfl, hk2⟩ := hrel
    by_cases hlt : k < s.size
    · go_wp2
      all_goals try simp only [beq_iff_eq, beq_eq_false_iff_ne, ne_eq] at *
      iterate 4 exact ⟨⟨k + 1, by omega, by go_num, hk2.out.trans (skipTo_blank s k hlt (by simp [← UInt8.toNat_inj]; omega))⟩, by simp [intOf]; omega⟩
      · go_loop [1] (fun i => ∃ j : Nat, k ≤ j ∧ j ≤ s.size ∧ i = .int .i64 j ∧ (k < j ∨ (j = k ∧ s[k].toNat = 35)) ∧ Hid (skipTo s false a = skipTo s true j)) (fun i => s.size - (intOf i).toNat)
        case atStart => exact ⟨k, by omega, by omega, rfl, .inr ⟨rfl, by omega⟩, hk2.out.trans (skipTo_hash s k hlt (by simp [← UInt8.toNat_inj]; omega))⟩
        case round =>
          obtain ⟨j, hj, hj', rfl, hjk, hj2⟩ := hrel
          by_cases hlj : j < s.size
          · go_wp2
            all_goals try simp only [bne_iff_ne, bne_eq_false_iff_eq, ne_eq] at *
            · exact ⟨⟨j + 1, by omega, by omega, by go_num, .inl (by omega), hj2.out.trans (skipTo_in s j hlj (by simp [← UInt8.toNat_inj]; omega))⟩, by simp [intOf]; omega⟩
            · have hkj : k < j := by rcases hjk with h | ⟨rfl, h⟩ <;> omega
              exact ⟨⟨j, by omega, rfl, hj2.out.trans (skipTo_nl s j hlj (by simp [← UInt8.toNat_inj]; omega))⟩, by simp [intOf]; omega⟩
          · go_wp2
            exact ⟨⟨j, by omega, rfl, hj2.out.trans (by rw [skipTo_end _ _ _ (by omega), skipTo_end _ _ _ (by omega)])⟩, by simp [intOf]; omega⟩
      · go_ret
        rw [hk2.out, skipTo_stop _ _ hlt (by simp [← UInt8.toNat_inj]; omega) (by simp [← UInt8.toNat_inj]; omega)]
        exact ⟨rfl, rfl⟩
    · go_wp2
      go_ret
      rw [hk2.out, skipTo_end _ _ _ (by omega)]
      exact ⟨rfl, rfl⟩

def NumRet (ds : List UInt8) (w : World) (e : Ending) (w' : World) : Prop :=
  w = w' ∧ ((∃ v : Nat, numRes ds = some v ∧ e = .returned (.tuple #[.int .i64 v, .bool true])) ∨ (∃ u : Int, numRes ds = none ∧ e = .returned (.tuple #[.int .i64 u, .bool false])))

set_option maxHeartbeats 1000000 in
theorem number_any (s : ByteArray) (w : World) (hs : s.size ≤ 20000) (h0 : 0 < s.size) (hd : Hid (∀ c ∈ bytesFrom s 0, digitB c = true)) :
    Calls Try.prog 31 #[.string s] w (NumRet (bytesFrom s 0) w) := by
  have hh : Hid _ := Lib.hid (head_bytes s h0)
  have hl : Hid _ := Lib.hid (bytesFrom_length s 0)
  go_enter Try.func31, Try.ntmps31
  go_wp2
  · go_ret2
    exact ⟨rfl, .inr ⟨0, numRes_zero _ (by rw [hl.out]; omega) (by rw [hh.out]; simp [← UInt8.toNat_inj]; omega), rfl⟩⟩
  all_goals
    have hz : Hid (¬ (1 < (bytesFrom s 0).length ∧ (bytesFrom s 0).head? = some 48)) := Lib.hid (by rw [hl.out, hh.out]; simp [← UInt8.toNat_inj]; omega)
    go_loop [4, 5, 16] (fun v _ i => ∃ k n : Nat, k ≤ s.size ∧ i = .int .i64 k ∧ n ≤ 1073741824 ∧ v = .int .i64 n ∧ Hid (n = numL 0 ((bytesFrom s 0).take k))) (fun _ _ i => s.size - (intOf i).toNat)
    case atStart => exact ⟨0, 0, by omega, rfl, by omega, rfl, by rw [List.take_zero, numL_nil]; rfl⟩
    case round =>
      obtain ⟨k, n, hk, rfl, hn, rfl, hv⟩ := hrel
      by_cases hlt : k < s.size
      · have hb := digit_bd s[k] (hd.out _ (mem_bytes s k hlt))
        have hb1 := hb.1
        have hb2 := hb.2
        clear hb
        go_wp2
        · go_ret2
          exact ⟨rfl, .inr ⟨0, numRes_big _ (k + 1) (by rw [num_step s k hlt, ← hv.out]; have := dig_int n s[k] hb1; omega), rfl⟩⟩
        · have hdi := dig_int n s[k] hb1
          exact ⟨⟨k + 1, dig n s[k], by omega, by go_num, by omega, by rw [hdi], by rw [num_step s k hlt, ← hv.out]; rfl⟩, by simp [intOf]; omega⟩
      · go_wp2
        go_ret2
        have h1 := hv.out
        rw [take_all _ _ (by omega)] at h1
        exact ⟨rfl, .inl ⟨n, by rw [h1]; exact numRes_ok _ hz.out (by omega), rfl⟩⟩

set_option maxHeartbeats 1000000 in
theorem rnumber_any (s : ByteArray) (w : World) (hs : s.size ≤ 20000) (h0 : 0 < s.size) (hd : Hid (∀ c ∈ bytesFrom s 0, digitB c = true)) :
    Calls Try.prog 34 #[.string s] w (NumRet (bytesFrom s 0) w) := by
  have hh : Hid _ := Lib.hid (head_bytes s h0)
  have hl : Hid _ := Lib.hid (bytesFrom_length s 0)
  go_enter Try.func34, Try.ntmps34
  by_cases h10 : 10 < s.size
  · go_wp2
    all_goals go_ret2
    all_goals exact ⟨rfl, .inr ⟨0, numRes_long _ hd.out (by rw [hl.out]; omega), rfl⟩⟩
  by_cases hq : 1 < s.size ∧ s[0].toNat = 48
  · obtain ⟨hq1, hq2⟩ := hq
    have hq3 : ((s[0].toNat : Int) == 48) = true := by simp; omega
    go_wp2
    go_ret2
    exact ⟨rfl, .inr ⟨0, numRes_zero _ (by rw [hl.out]; omega) (by rw [hh.out]; simp [← UInt8.toNat_inj]; omega), rfl⟩⟩
  · have hz : Hid (¬ (1 < (bytesFrom s 0).length ∧ (bytesFrom s 0).head? = some 48)) := Lib.hid (by rw [hl.out, hh.out]; simp [← UInt8.toNat_inj]; omega)
    have hq' : s.size ≤ 1 ∨ (1 < s.size ∧ ((s[0].toNat : Int) == 48) = false) := by
      rcases Nat.lt_or_ge 1 s.size with h | h
      · exact .inr ⟨h, by simp; omega⟩
      · exact .inl h
    clear hq
    rcases hq' with hq | ⟨hq, hq2⟩
    all_goals
      go_wp2
      go_loop [4, 5] (fun v i => ∃ k n : Nat, k ≤ s.size ∧ i = .int .i64 k ∧ n ≤ 9999999999 ∧ v = .int .i64 n ∧ Hid (n = numL 0 ((bytesFrom s 0).take k))) (fun _ i => s.size - (intOf i).toNat)
      case atStart => exact ⟨0, 0, by omega, rfl, by omega, rfl, by rw [List.take_zero, numL_nil]; rfl⟩
      case round =>
        obtain ⟨k, n, hk, rfl, hn, rfl, hv⟩ := hrel
        by_cases hlt : k < s.size
        · have hb := digit_bd s[k] (hd.out _ (mem_bytes s k hlt))
          have hb1 := hb.1
          have hb2 := hb.2
          clear hb
          go_wp2
          have hdi := dig_int n s[k] hb1
          have hs1 := num_step s k hlt
          have hs2 := num_take_bd (bytesFrom s 0) (k + 1) hd.out (by rw [hl.out]; omega)
          rw [hs1, ← hv.out] at hs2
          exact ⟨⟨k + 1, dig n s[k], by omega, by go_num, hs2, by rw [hdi], by rw [hs1, ← hv.out]; rfl⟩, by simp [intOf]; omega⟩
        · by_cases hm : n ≤ 1073741824
          · go_wp2
            go_ret2
            have h1 := hv.out
            rw [take_all _ _ (by omega)] at h1
            refine ⟨rfl, .inl ⟨n, by rw [h1]; exact numRes_ok _ hz.out (by omega), ?_⟩⟩
            first | rfl | (simp; omega)
          · go_wp2
            go_ret2
            have h1 := hv.out
            rw [take_all _ _ (by omega)] at h1
            refine ⟨rfl, .inr ⟨n, numRes_no _ (by omega), ?_⟩⟩
            first | rfl | (simp; omega)
end Go.Proofs.Ytcaliinineajkaa
