/- The walks over Of, of the program and of the reference, and over the laws' awake. -/
import Derived.Test.YtogennegbihceaaTypeWalk4
set_option maxRecDepth 100000
namespace Go.Proofs.Ytogennegbihceaa
open Go.RowKit

theorem read0 (ev kv : Value) (l : List Tm) (kinds : List Int) (bound : Bool) (E : Ex) (w : World) (hl : l.length ≤ 1000) (ho : Hid E.ok) (ha : Hid (∀ t ∈ l, argB kinds.length t = true)) (hf : Hid (E.fl = l)) (ht : Terms w ev l) (hk : Ints .i64 w kv kinds) :
    Calls Try.prog 22 #[.agg #[ev, kv], .int .i64 0, .bool bound] w fun e w' => e = .returned (.tuple #[.int .i64 (ty kinds bound E), .int .i64 l.length]) ∧ Below w.heap.size w w' :=
  (read_any ev kv l kinds hl E ho.out (by rw [hf.out]; exact ha.out) 0 [] bound w (by simp [hf.out]) ht hk).mono fun e w' ⟨he, hb⟩ => ⟨by rw [he, Nat.zero_add, hf.out], hb⟩
theorem kind0 (ev kv : Value) (l : List Tm) (kinds : List Int) (bound : Bool) (E : Ex) (w : World) (hl : l.length ≤ 1000) (ho : Hid E.ok) (ha : Hid (∀ t ∈ l, argB kinds.length t = true)) (hf : Hid (E.fl = l)) (ht : Terms w ev l) (hk : Ints .i64 w kv kinds) :
    Calls Try.prog 31 #[ev, .int .i64 0, kv, .bool bound] w fun e w' => e = .returned (.int .i64 (ty kinds bound E)) ∧ Below w.heap.size w w' :=
  (kind_any ev kv l kinds hl E ho.out (by rw [hf.out]; exact ha.out) 0 [] bound w (by simp [hf.out]) ht hk)

theorem kindsB_bad {kinds : List Int} (k : Nat) (hk : k < kinds.length) (h : kindB kinds[k] = false) : kindsB kinds = false := by
  unfold kindsB
  rw [List.all_eq_false]
  exact ⟨kinds[k], List.getElem_mem hk, by unfold kindB at h; simp [h]⟩
theorem kindsB_step {kinds : List Int} (k : Nat) (hk : k < kinds.length) (h : kindsB (kinds.take k) = true) (hw : kindB kinds[k] = true) : kindsB (kinds.take (k + 1)) = true := by
  rw [List.take_succ_eq_append_getElem hk]
  unfold kindsB at *
  rw [List.all_append, h]
  unfold kindB at hw
  simpa using hw

def OfRet (l : List Tm) (kinds : List Int) (bound : Bool) (w : World) (e : Ending) (w' : World) : Prop :=
  e = .returned (.tuple #[.int .i64 (ofF l kinds bound).1, .int .i64 (ofF l kinds bound).2]) ∧ Below w.heap.size w w'
theorem of_end {l : List Tm} {kinds : List Int} {bound : Bool} {w w' : World} {a b : Int} (h : ofF l kinds bound = (a, b)) (hb : Below w.heap.size w w') : OfRet l kinds bound w (.returned (.tuple #[.int .i64 a, .int .i64 b])) w' := by
  unfold OfRet; rw [h]; exact ⟨rfl, hb⟩

set_option maxHeartbeats 4000000 in
theorem of_any (ev kv : Value) (l : List Tm) (kinds : List Int) (bound : Bool) (w : World) (hl : l.length ≤ 1000) (hv : Hid (Terms w ev l)) (hk : Hid (Ints .i64 w kv kinds)) :
    Calls Try.prog 11 #[ev, kv, .bool bound] w (OfRet l kinds bound w) := by
  obtain ⟨a0, cap0, rfl, i1, i2, i3, i4⟩ := hk.out.open
  have HC := Lib.hid i4
  obtain ⟨a1, cap1, rfl, _, _, j3⟩ := hv.out.open
  clear i3 i4 j3
  by_cases h6 : 6 < kinds.length
  · have H := Lib.hid (ofF_many l kinds bound h6)
    go_enter Try.func11, Try.ntmps11
    go_wp2_with fail
    go_ret2
    exact of_end H.out (Below.refl _ _)
  have b6 : decide (6 < kinds.length) = false := by simp; omega
  have b6' : decide (6 < (kinds.length : Int)) = false := by simp; omega
  cases hval : validB l kinds.length with
  | false =>
    have H := Lib.hid (ofF_invalid l kinds bound hval)
    go_enter Try.func11, Try.ntmps11
    go_wp2_with fail
    go_loop [9, 18] (fun _ i => ∃ k : Nat, k ≤ kinds.length ∧ i = .int .i64 k) (fun _ i => kinds.length - (intOf i).toNat)
    case atStart => exact ⟨0, by omega, rfl⟩
    case round =>
      obtain ⟨k, hkl, rfl⟩ := hrel
      by_cases hlt : k < kinds.length
      · obtain ⟨g, o, rfl, hg, hc⟩ := HC.out (by omega)
        have c0 := hc k _ (List.getElem?_eq_getElem hlt)
        clear hc
        rcases Bool.eq_false_or_eq_true (kindB kinds[k]) with hw | hw
        · go_wp2_with (go_at_call 20; refine (possible_any _ _).mono ?_; rintro e w1 ⟨rfl, rfl⟩)
          exact ⟨⟨k + 1, by omega, by go_num⟩, by simp [intOf]; omega⟩
        · go_wp2_with (go_at_call 20; refine (possible_any _ _).mono ?_; rintro e w1 ⟨rfl, rfl⟩)
          go_ret2
          exact of_end H.out (Below.refl _ _)
      · go_wp2_with (go_at_call 21; refine (valid_any _ l _ _ hl hv).mono ?_; rintro e w1 ⟨rfl, hb1⟩)
        go_ret2
        exact of_end H.out hb1
  | true =>
    obtain ⟨E, hp, ho, hf, hlen, harg, _, _⟩ := valid_parse hval
    have HO := Lib.hid ho
    have HF := Lib.hid hf
    have HA := Lib.hid (List.all_eq_true.1 harg)
    have HP := Lib.hid hp
    have HV := Lib.hid hval
    clear ho hf harg hp
    go_enter Try.func11, Try.ntmps11
    go_wp2_with fail
    go_loop [9, 18] (fun _ i => ∃ k : Nat, k ≤ kinds.length ∧ i = .int .i64 k ∧ Hid (kindsB (kinds.take k) = true)) (fun _ i => kinds.length - (intOf i).toNat)
    case atStart => exact ⟨0, by omega, rfl, rfl⟩
    case round =>
      obtain ⟨k, hkl, rfl, hall⟩ := hrel
      by_cases hlt : k < kinds.length
      · obtain ⟨g, o, rfl, hg, hc⟩ := HC.out (by omega)
        have c0 := hc k _ (List.getElem?_eq_getElem hlt)
        clear hc
        rcases Bool.eq_false_or_eq_true (kindB kinds[k]) with hw | hw
        · have HN := Lib.hid (kindsB_step k hlt hall.out hw)
          go_wp2_with (go_at_call 20; refine (possible_any _ _).mono ?_; rintro e w1 ⟨rfl, rfl⟩)
          exact ⟨⟨k + 1, by omega, by go_num, HN⟩, by simp [intOf]; omega⟩
        · have HN := Lib.hid (ofF_kinds l kinds bound (kindsB_bad k hlt hw))
          go_wp2_with (go_at_call 20; refine (possible_any _ _).mono ?_; rintro e w1 ⟨rfl, rfl⟩)
          go_ret2
          exact of_end HN.out (Below.refl _ _)
      · have hkk := hall.out
        rw [List.take_of_length_le (by omega)] at hkk
        have HN := Lib.hid (ofF_ok l kinds bound E h6 hkk HV.out HP.out)
        clear hkk
        by_cases hz : ty kinds bound E = 0
        · have hz' : (ty kinds bound E == 0) = true := by simp [hz]
          have HZ := Lib.hid hz
          clear hz
          go_wp2_with (go_at_call 21; refine (valid_any _ l _ _ hl hv).mono ?_; rintro e w1 ⟨rfl, hb1⟩)
          refine (read0 _ _ l kinds bound E _ hl HO HA HF (by exact hv.out.below (hb1.alloc (by have := hb1.size; omega) _)) (by exact hk.out.below (hb1.alloc (by have := hb1.size; omega) _))).mono ?_
          rintro e w2 ⟨rfl, hb2⟩
          have hs1 := hb1.size
          go_wp2_with fail
          go_ret2
          exact of_end (by rw [HN.out, if_pos HZ.out]) ((hb1.alloc hs1 _).trans (hb2.mono (by simp; omega)))
        · have hz' : (ty kinds bound E == 0) = false := by simp [hz]
          go_wp2_with (go_at_call 21; refine (valid_any _ l _ _ hl hv).mono ?_; rintro e w1 ⟨rfl, hb1⟩)
          refine (read0 _ _ l kinds bound E _ hl HO HA HF (by exact hv.out.below (hb1.alloc (by have := hb1.size; omega) _)) (by exact hk.out.below (hb1.alloc (by have := hb1.size; omega) _))).mono ?_
          rintro e w2 ⟨rfl, hb2⟩
          have hs1 := hb1.size
          go_wp2_with fail
          go_ret2
          exact of_end (by rw [HN.out, if_neg hz]) ((hb1.alloc hs1 _).trans (hb2.mono (by simp; omega)))

end Go.Proofs.Ytogennegbihceaa
