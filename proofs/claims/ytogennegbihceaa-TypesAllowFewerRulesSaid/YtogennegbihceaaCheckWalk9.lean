/- The walks over Check and Valid, of the program and of the reference. -/
import Derived.Test.YtogennegbihceaaCheckWalk8
set_option linter.unusedVariables false
set_option maxRecDepth 100000
namespace Go.Proofs.Ytogennegbihceaa
open Go.RowKit Go.Maps

def LightP (p : ProgD) : Prop := p.vars.length ≤ 1000 ∧ p.rules.length ≤ 1000 ∧ ∀ r ∈ p.rules, LightR r
theorem check_limit {p : ProgD} (h : p.vars.length = 0 ∨ 6 < p.vars.length ∨ 12 < p.rules.length) : checkF p = 3 := by unfold checkF; rw [if_pos h]
theorem check_name {p : ProgD} (h : ¬ (p.vars.length = 0 ∨ 6 < p.vars.length ∨ 12 < p.rules.length)) (h1 : namedB p = false) : checkF p = 5 := by unfold checkF; rw [if_neg h, if_pos h1]
theorem check_num {p : ProgD} (h : ¬ (p.vars.length = 0 ∨ 6 < p.vars.length ∨ 12 < p.rules.length)) (h1 : namedB p = true) (h2 : p.vars.all numB = false) : checkF p = 2 := by unfold checkF; rw [if_neg h, if_neg (by simp [h1]), if_pos h2]
theorem check_form {p : ProgD} (h : ¬ (p.vars.length = 0 ∨ 6 < p.vars.length ∨ 12 < p.rules.length)) (h1 : namedB p = true) (h2 : p.vars.all numB = true) (h3 : p.rules.all (formedB · p.vars.length) = false) : checkF p = 7 := by unfold checkF; rw [if_neg h, if_neg (by simp [h1]), if_neg (by simp [h2]), if_pos h3]
theorem check_type {p : ProgD} (h : ¬ (p.vars.length = 0 ∨ 6 < p.vars.length ∨ 12 < p.rules.length)) (h1 : namedB p = true) (h2 : p.vars.all numB = true) (h3 : p.rules.all (formedB · p.vars.length) = true) (h4 : p.rules.all (typedB · (kindsOf p)) = false) : checkF p = 6 := by unfold checkF; rw [if_neg h, if_neg (by simp [h1]), if_neg (by simp [h2]), if_neg (by simp [h3]), if_pos h4]
theorem check_ok {p : ProgD} (h : ¬ (p.vars.length = 0 ∨ 6 < p.vars.length ∨ 12 < p.rules.length)) (h1 : namedB p = true) (h2 : p.vars.all numB = true) (h3 : p.rules.all (formedB · p.vars.length) = true) (h4 : p.rules.all (typedB · (kindsOf p)) = true) : checkF p = 0 := by unfold checkF; rw [if_neg h, if_neg (by simp [h1]), if_neg (by simp [h2]), if_neg (by simp [h3]), if_neg (by simp [h4])]
theorem formed_vars {r : RuleD} {n : Nat} (h : formedB r n = true) : ∀ s ∈ r.sets, 0 ≤ s.var ∧ s.var < n := by
  rw [formedB_eq] at h
  simp only [Bool.and_eq_true, setsB, List.all_eq_true, setB, withinB, decide_eq_true_eq] at h
  intro s hs
  have := (h.2.2.2.1 s hs).1
  omega
theorem kinds_of_num {p : ProgD} (h : p.vars.all numB = true) : kindsB (kindsOf p) = true := by
  unfold kindsB kindsOf
  rw [List.all_map, List.all_eq_true]
  intro x hx
  have := List.all_eq_true.1 h x hx
  unfold numB at this
  rw [Bool.and_eq_true] at this
  exact this.1
theorem box_ok {w : World} {p : ProgD} {a0 a1 : Option Addr} {cap0 cap1 : Nat} (h : ProgOk w (.agg #[.string p.name, .slice a0 p.vars.length cap0, .slice a1 p.rules.length cap1]) p) : ProgOk (w.alloc (.cells #[.string p.name, .slice a0 p.vars.length cap0, .slice a1 p.rules.length cap1] 25)) (.agg #[.string p.name, .slice a0 p.vars.length cap0, .slice a1 p.rules.length cap1]) p := h.below ((Below.refl _ _).alloc (Nat.le_refl _) _)

set_option maxHeartbeats 16000000 in
theorem check_any (v : Value) (p : ProgD) (w : World) (hv : ProgOk w v p) (hin : ProgIn p) (hlight : LightP p) :
    Calls Try.prog 13 #[v] w fun e w' => e = .returned (.int .i64 (checkF p)) ∧ Below w.heap.size w w' := by
  obtain ⟨hp1, hp2, hp3⟩ := hlight
  have HLR := Lib.hid hp3
  have HP := Lib.hid hv
  have HIN := Lib.hid hin
  obtain ⟨vv, rv, rfl, hvv, hrv⟩ := hv
  obtain ⟨a0, cap0, rfl, i1, i2, i3⟩ := hvv.open
  obtain ⟨a1, cap1, rfl, j1, j2, j3⟩ := hrv.open
  have HVC := Lib.hid i3
  have HRC := Lib.hid j3
  clear i3 j3 hvv hrv hp3 hin
  by_cases h0 : p.vars.length = 0
  · have b0 : ((p.vars.length : Int) == 0) = true := by simp [h0]
    have H := Lib.hid (check_limit (.inl h0))
    have h0' : p.vars.length < 1 := by omega
    clear h0
    go_enter Try.func13, Try.ntmps13
    go_wp2_with fail
    go_ret
    exact ⟨ret_int H.out.symm, (Below.refl _ _).alloc (Nat.le_refl _) _⟩
  have b0 : ((p.vars.length : Int) == 0) = false := beq_eq_false_iff_ne.2 (by omega)
  by_cases h6 : 6 < p.vars.length
  · have H := Lib.hid (check_limit (.inr (.inl h6)))
    go_enter Try.func13, Try.ntmps13
    go_wp2_with fail
    go_ret
    exact ⟨ret_int H.out.symm, (Below.refl _ _).alloc (Nat.le_refl _) _⟩
  have b6 : decide (6 < p.vars.length) = false := by simp; omega
  have b6' : decide (6 < (p.vars.length : Int)) = false := by simp; omega
  by_cases h12 : 12 < p.rules.length
  · have H := Lib.hid (check_limit (.inr (.inr h12)))
    go_enter Try.func13, Try.ntmps13
    go_wp2_with fail
    go_ret
    exact ⟨ret_int H.out.symm, (Below.refl _ _).alloc (Nat.le_refl _) _⟩
  have b12 : decide (12 < p.rules.length) = false := by simp; omega
  have b12' : decide (12 < (p.rules.length : Int)) = false := by simp; omega
  have HLIM := Lib.hid (show ¬ (p.vars.length = 0 ∨ 6 < p.vars.length ∨ 12 < p.rules.length) by omega)
  have HN0 := Lib.hid h0
  have h0' : 0 < p.vars.length := by omega
  clear h0
  rcases Bool.eq_false_or_eq_true (namedB p) with qn | qn
  rotate_left
  · have H := Lib.hid (check_name HLIM.out qn)
    go_enter Try.func13, Try.ntmps13
    go_wp2_with fail
    refine (named_any _ p _ (by exact box_ok HP.out) HIN.out (by omega) (by omega)).mono ?_
    rintro e w1 ⟨rfl, hb1⟩
    go_wp2_with fail
    go_ret
    exact ⟨ret_int H.out.symm, box_below (by simpa using hb1)⟩
  go_enter Try.func13, Try.ntmps13
  go_wp2_with fail
  refine (named_any _ p _ (by exact box_ok HP.out) HIN.out (by omega) (by omega)).mono ?_
  rintro e w1 ⟨rfl, hb1'⟩
  have hb1 : Below (w.heap.size + 1) (w.alloc (.cells #[.string p.name, .slice a0 p.vars.length cap0, .slice a1 p.rules.length cap1] 25)) w1 := by simpa using hb1'
  have hbox := box_at hb1 1
  simp at hbox
  clear hb1'
  go_wp2_with fail
  clear hbox
  go_loopw [4, 32] (fun _ i wr => ∃ k : Nat, k ≤ p.vars.length ∧ i = .int .i64 k ∧ Hid ((p.vars.take k).all numB = true) ∧ Hid (Below (w.heap.size + 1) (w.alloc (.cells #[.string p.name, .slice a0 p.vars.length cap0, .slice a1 p.rules.length cap1] 25)) wr)) (fun _ i _ => p.vars.length - (intOf i).toNat)
  case atStart => exact ⟨0, by omega, rfl, rfl, hb1⟩
  case round =>
    clear hb1
    obtain ⟨k, hk, rfl, hall, hbel⟩ := hrel
    have hbw := box_below hbel.out
    have hbs := box_size hbel.out
    have hbox := box_at hbel.out 1
    have hbox2 := box_at hbel.out 2
    simp at hbox hbox2
    by_cases hlt : k < p.vars.length
    · obtain ⟨g, o, rfl, hg, hc⟩ := HVC.out (by omega)
      obtain ⟨x, hx⟩ : ∃ x, p.vars[k]? = some x := ⟨_, List.getElem?_eq_getElem hlt⟩
      obtain ⟨c0, c1, c2, c3, c4, c5⟩ := hc k x hx
      rw [← hbw.cell (p := ⟨g, _, none⟩) hg] at c0 c1 c2 c3 c4 c5
      have HGX : Hid (p.vars[k] = x) := (List.getElem?_eq_some_iff.1 hx).2
      clear hc hx
      rcases Bool.eq_false_or_eq_true (numB x) with q1 | q1
      · have HST := Lib.hid (all_step k hlt hall.out (by rw [HGX.out]; exact q1))
        go_wp2_with (go_at_call 24; refine (numbers_any x _).mono ?_; rintro e w2 ⟨rfl, hb2⟩)
        exact ⟨⟨k + 1, by omega, by go_num, HST, (hbel.out.alloc hbs _).trans (hb2.mono (by simp; omega))⟩, by simp [intOf]; omega⟩
      · have H := Lib.hid (check_num HLIM.out qn (all_bad k hlt (by rw [HGX.out]; exact q1)))
        go_wp2_with (go_at_call 24; refine (numbers_any x _).mono ?_; rintro e w2 ⟨rfl, hb2⟩)
        go_ret
        exact ⟨ret_int H.out.symm, (hbw.alloc (by omega) _).trans (hb2.mono (by simp; omega))⟩
    · obtain rfl : k = p.vars.length := by omega
      have hnum : p.vars.all numB = true := all_end hall.out
      have HNUM := Lib.hid hnum
      clear hnum
      obtain ⟨wo, rfl⟩ : ∃ wo : World, wo = wr := ⟨_, rfl⟩
      go_wp2_with fail
      go_loopw [6, 43] (fun _ i wr => ∃ k : Nat, k ≤ p.rules.length ∧ i = .int .i64 k ∧ Hid ((p.rules.take k).all (formedB · p.vars.length) = true) ∧ Hid (Below (w.heap.size + 1) (w.alloc (.cells #[.string p.name, .slice a0 p.vars.length cap0, .slice a1 p.rules.length cap1] 25)) wr)) (fun _ i _ => p.rules.length - (intOf i).toNat)
      case atStart => exact ⟨0, by omega, rfl, rfl, hbel⟩
      case round =>
        clear hbel hbw hbs hbox hbox2 hall
        obtain ⟨k, hk, rfl, hall, hbel⟩ := hrel
        have hbw := box_below hbel.out
        have hbs := box_size hbel.out
        have hbox := box_at hbel.out 1
        have hbox2 := box_at hbel.out 2
        simp at hbox hbox2
        by_cases hlt : k < p.rules.length
        · obtain ⟨g, o, rfl, hg, hc⟩ := HRC.out (by omega)
          obtain ⟨x, hx⟩ : ∃ x, p.rules[k]? = some x := ⟨_, List.getElem?_eq_getElem hlt⟩
          obtain ⟨gv, sv, ht, hs, c0, c1, c2⟩ := hc k x hx
          have HT := Lib.hid ht
          have HS := Lib.hid hs
          obtain ⟨ga, gcap, rfl, _, _, _⟩ := ht.open
          obtain ⟨sa, scap, rfl, _, _, _⟩ := sets_open hs
          rw [← hbw.cell (p := ⟨g, _, none⟩) hg] at c0 c1 c2
          have HGX : Hid (p.rules[k] = x) := (List.getElem?_eq_some_iff.1 hx).2
          have HXI := Lib.hid (HIN.out.2.2 x (List.mem_of_getElem? hx))
          have HXL := Lib.hid (HLR.out x (List.mem_of_getElem? hx))
          have HXM := Lib.hid (List.mem_of_getElem? hx)
          clear hc hx ht hs
          have hlt0 : w.heap.size < wr.heap.size := by omega
          have hne0 : w.heap.size ≠ wr.heap.size := by omega
          rcases Bool.eq_false_or_eq_true (formedB x p.vars.length) with q1 | q1
          · have HST := Lib.hid (all_step (f := fun r : RuleD => formedB r p.vars.length) k hlt hall.out (by rw [HGX.out]; exact q1))
            go_wp2_with fail
            refine (formed_any _ _ x p.vars.length _ (by exact HT.out.below (hbw.alloc (by omega) _)) (by exact HS.out.below (hbw.alloc (by omega) _) fun _ _ => SetOk.below (hbw.alloc (by omega) _)) HXI.out HXL.out (by omega)).mono ?_
            rintro e w2 ⟨rfl, hb2⟩
            go_wp2_with fail
            exact ⟨⟨k + 1, by omega, by go_num, HST, (hbel.out.alloc hbs _).trans (hb2.mono (by simp; omega))⟩, by simp [intOf]; omega⟩
          · have H := Lib.hid (check_form HLIM.out qn HNUM.out (all_bad k hlt (by rw [HGX.out]; exact q1)))
            go_wp2_with fail
            refine (formed_any _ _ x p.vars.length _ (by exact HT.out.below (hbw.alloc (by omega) _)) (by exact HS.out.below (hbw.alloc (by omega) _) fun _ _ => SetOk.below (hbw.alloc (by omega) _)) HXI.out HXL.out (by omega)).mono ?_
            rintro e w2 ⟨rfl, hb2⟩
            go_wp2_with fail
            go_ret
            exact ⟨ret_int H.out.symm, (hbw.alloc (by omega) _).trans (hb2.mono (by simp; omega))⟩
        · obtain rfl : k = p.rules.length := by omega
          have hform : p.rules.all (formedB · p.vars.length) = true := all_end hall.out
          have HFORM := Lib.hid hform
          clear hform
          obtain ⟨wo2, rfl⟩ : ∃ wo2 : World, wo2 = wr := ⟨_, rfl⟩
          have hbox0 := box_at hbel.out 0
          simp at hbox0
          have HKL := Lib.hid (show (kindsOf p).length = p.vars.length by simp [kindsOf])
          go_wp2_with fail
          refine (kinds_any _ p _ (by exact HP.out.below hbw) (by omega)).mono ?_
          rintro e w3 ⟨kv, rfl, hkv, hb3⟩
          have HKV := Lib.hid hkv
          have hbel3 : Hid (Below (w.heap.size + 1) (w.alloc (.cells #[.string p.name, .slice a0 p.vars.length cap0, .slice a1 p.rules.length cap1] 25)) w3) := hbel.out.trans (hb3.mono hbs)
          clear hkv hbel hb3 hbw hbs hbox hbox2 hall hbox0
          have hbox2 := box_at hbel3.out 2
          simp at hbox2
          go_wp2_with fail
          clear hbox2
          go_loopw [9, 59] (fun _ i wr => ∃ k : Nat, k ≤ p.rules.length ∧ i = .int .i64 k ∧ Hid ((p.rules.take k).all (typedB · (kindsOf p)) = true) ∧ Hid (Below w3.heap.size w3 wr) ∧ Hid (Below (w.heap.size + 1) (w.alloc (.cells #[.string p.name, .slice a0 p.vars.length cap0, .slice a1 p.rules.length cap1] 25)) wr)) (fun _ i _ => p.rules.length - (intOf i).toNat)
          case atStart => exact ⟨0, by omega, rfl, rfl, Below.refl _ _, hbel3⟩
          case round =>
            clear hbel3
            obtain ⟨k, hk, rfl, hall, hb3, hbel⟩ := hrel
            have hbw := box_below hbel.out
            have hbs := box_size hbel.out
            by_cases hlt : k < p.rules.length
            · obtain ⟨g, o, rfl, hg, hc⟩ := HRC.out (by omega)
              obtain ⟨x, hx⟩ : ∃ x, p.rules[k]? = some x := ⟨_, List.getElem?_eq_getElem hlt⟩
              obtain ⟨gv, sv, ht, hs, c0, c1, c2⟩ := hc k x hx
              have HT := Lib.hid ht
              have HS := Lib.hid hs
              obtain ⟨ga, gcap, rfl, _, _, _⟩ := ht.open
              obtain ⟨sa, scap, rfl, _, _, _⟩ := sets_open hs
              rw [← hbw.cell (p := ⟨g, _, none⟩) hg] at c0 c1 c2
              have HGX : Hid (p.rules[k] = x) := (List.getElem?_eq_some_iff.1 hx).2
              have HXI := Lib.hid (HIN.out.2.2 x (List.mem_of_getElem? hx))
              have HXL := Lib.hid (HLR.out x (List.mem_of_getElem? hx))
              have HXM := Lib.hid (List.mem_of_getElem? hx)
              clear hc hx ht hs
              have HVAR := Lib.hid (formed_vars (n := p.vars.length) (List.all_eq_true.1 HFORM.out x HXM.out))
              rcases Bool.eq_false_or_eq_true (typedB x (kindsOf p)) with q1 | q1
              · have HST := Lib.hid (all_step (f := fun r : RuleD => typedB r (kindsOf p)) k hlt hall.out (by rw [HGX.out]; exact q1))
                go_wp2_with fail
                refine (typed_any _ _ _ x (kindsOf p) _ (by exact HT.out.below (hbw.alloc (by omega) _)) (by exact HS.out.below (hbw.alloc (by omega) _) fun _ _ => SetOk.below (hbw.alloc (by omega) _)) (by exact HKV.out.below (hb3.out.alloc hb3.out.size _)) HXL.out (by rw [HKL.out]; exact HVAR.out)).mono ?_
                rintro e w4 ⟨rfl, hb4⟩
                go_wp2_with fail
                exact ⟨⟨k + 1, by omega, by go_num, HST, (hb3.out.alloc hb3.out.size _).trans (hb4.mono (by have := hb3.out.size; simp; omega)), (hbel.out.alloc hbs _).trans (hb4.mono (by simp; omega))⟩, by simp [intOf]; omega⟩
              · have H := Lib.hid (check_type HLIM.out qn HNUM.out HFORM.out (all_bad k hlt (by rw [HGX.out]; exact q1)))
                go_wp2_with fail
                refine (typed_any _ _ _ x (kindsOf p) _ (by exact HT.out.below (hbw.alloc (by omega) _)) (by exact HS.out.below (hbw.alloc (by omega) _) fun _ _ => SetOk.below (hbw.alloc (by omega) _)) (by exact HKV.out.below (hb3.out.alloc hb3.out.size _)) HXL.out (by rw [HKL.out]; exact HVAR.out)).mono ?_
                rintro e w4 ⟨rfl, hb4⟩
                go_wp2_with fail
                go_ret
                exact ⟨ret_int H.out.symm, (hbw.alloc (by omega) _).trans (hb4.mono (by simp; omega))⟩
            · obtain rfl : k = p.rules.length := by omega
              have H := Lib.hid (check_ok HLIM.out qn HNUM.out HFORM.out (all_end hall.out))
              go_wp2_with fail
              go_ret
              exact ⟨ret_int H.out.symm, hbw⟩

theorem validP_any (v : Value) (p : ProgD) (w : World) (hv : ProgOk w v p) (hin : ProgIn p) (hlight : LightP p) :
    Calls Try.prog 8 #[v] w fun e w' => e = .returned (.bool (checkF p == 0)) ∧ Below w.heap.size w w' := by
  have HP := Lib.hid hv
  have HIN := Lib.hid hin
  have HL := Lib.hid hlight
  obtain ⟨vv, rv, rfl, hvv, hrv⟩ := hv
  obtain ⟨a0, cap0, rfl, i1, i2, i3⟩ := hvv.open
  obtain ⟨a1, cap1, rfl, j1, j2, j3⟩ := hrv.open
  clear i3 j3 hvv hrv hin hlight
  go_enter Try.func8, Try.ntmps8
  go_wp2_with fail
  refine (check_any _ p _ (by exact box_ok HP.out) HIN.out HL.out).mono ?_
  rintro e w1 ⟨rfl, hb1⟩
  go_wp2_with fail
  go_ret
  exact ⟨rfl, box_below (by simpa using hb1)⟩

set_option maxHeartbeats 16000000 in
theorem rcheck_any (v : Value) (p : ProgD) (w : World) (hv : ProgOk w v p) (hin : ProgIn p) (hlight : LightP p) :
    Calls Try.prog 10 #[v] w fun e w' => e = .returned (.int .i64 (checkF p)) ∧ Below w.heap.size w w' := by
  obtain ⟨hp1, hp2, hp3⟩ := hlight
  have HLR := Lib.hid hp3
  have HP := Lib.hid hv
  have HIN := Lib.hid hin
  obtain ⟨vv, rv, rfl, hvv, hrv⟩ := hv
  obtain ⟨a0, cap0, rfl, i1, i2, i3⟩ := hvv.open
  obtain ⟨a1, cap1, rfl, j1, j2, j3⟩ := hrv.open
  have HVC := Lib.hid i3
  have HRC := Lib.hid j3
  clear i3 j3 hvv hrv hp3 hin
  rcases Bool.eq_false_or_eq_true (withinB p.vars.length 1 6) with qw | qw
  rotate_left
  · have H := Lib.hid (check_limit (p := p) (by simp [withinB] at qw; omega))
    go_enter Try.func10, Try.ntmps10
    go_wp2_with (go_at_call 14; refine (rin_any _ _ _ _).mono ?_; rintro e w2 ⟨rfl, rfl⟩)
    go_ret
    exact ⟨ret_int H.out.symm, (Below.refl _ _).alloc (Nat.le_refl _) _⟩
  have h0 : ¬ p.vars.length = 0 := by simp [withinB] at qw; omega
  have h6 : ¬ 6 < p.vars.length := by simp [withinB] at qw; omega
  by_cases h12 : 12 < p.rules.length
  · have H := Lib.hid (check_limit (.inr (.inr h12)))
    go_enter Try.func10, Try.ntmps10
    go_wp2_with (go_at_call 14; refine (rin_any _ _ _ _).mono ?_; rintro e w2 ⟨rfl, rfl⟩)
    go_ret
    exact ⟨ret_int H.out.symm, (Below.refl _ _).alloc (Nat.le_refl _) _⟩
  have b12 : decide (12 < p.rules.length) = false := by simp; omega
  have b12' : decide (12 < (p.rules.length : Int)) = false := by simp; omega
  have HLIM := Lib.hid (show ¬ (p.vars.length = 0 ∨ 6 < p.vars.length ∨ 12 < p.rules.length) by omega)
  have HN0 := Lib.hid h0
  have h0' : 0 < p.vars.length := by omega
  clear h0
  rcases Bool.eq_false_or_eq_true (namedB p) with qn | qn
  rotate_left
  · have H := Lib.hid (check_name HLIM.out qn)
    go_enter Try.func10, Try.ntmps10
    go_wp2_with (go_at_call 14; refine (rin_any _ _ _ _).mono ?_; rintro e w2 ⟨rfl, rfl⟩)
    refine (rnamed_any _ p _ (by exact box_ok HP.out) HIN.out (by omega) (by omega)).mono ?_
    rintro e w1 ⟨rfl, hb1⟩
    go_wp2_with fail
    go_ret
    exact ⟨ret_int H.out.symm, box_below (by simpa using hb1)⟩
  go_enter Try.func10, Try.ntmps10
  go_wp2_with (go_at_call 14; refine (rin_any _ _ _ _).mono ?_; rintro e w2 ⟨rfl, rfl⟩)
  refine (rnamed_any _ p _ (by exact box_ok HP.out) HIN.out (by omega) (by omega)).mono ?_
  rintro e w1 ⟨rfl, hb1'⟩
  have hb1 : Below (w.heap.size + 1) (w.alloc (.cells #[.string p.name, .slice a0 p.vars.length cap0, .slice a1 p.rules.length cap1] 25)) w1 := by simpa using hb1'
  have hbox := box_at hb1 1
  simp at hbox
  clear hb1'
  go_wp2_with fail
  clear hbox
  go_loopw [3] (fun i wr => ∃ k : Nat, k ≤ p.vars.length ∧ i = .int .i64 k ∧ Hid ((p.vars.take k).all numB = true) ∧ Hid (Below (w.heap.size + 1) (w.alloc (.cells #[.string p.name, .slice a0 p.vars.length cap0, .slice a1 p.rules.length cap1] 25)) wr)) (fun i _ => p.vars.length - (intOf i).toNat)
  case atStart => exact ⟨0, by omega, rfl, rfl, hb1⟩
  case round =>
    clear hb1
    obtain ⟨k, hk, rfl, hall, hbel⟩ := hrel
    have hbw := box_below hbel.out
    have hbs := box_size hbel.out
    have hbox := box_at hbel.out 1
    have hbox2 := box_at hbel.out 2
    simp at hbox hbox2
    by_cases hlt : k < p.vars.length
    · obtain ⟨g, o, rfl, hg, hc⟩ := HVC.out (by omega)
      obtain ⟨x, hx⟩ : ∃ x, p.vars[k]? = some x := ⟨_, List.getElem?_eq_getElem hlt⟩
      obtain ⟨c0, c1, c2, c3, c4, c5⟩ := hc k x hx
      rw [← hbw.cell (p := ⟨g, _, none⟩) hg] at c0 c1 c2 c3 c4 c5
      have HGX : Hid (p.vars[k] = x) := (List.getElem?_eq_some_iff.1 hx).2
      clear hc hx
      rcases Bool.eq_false_or_eq_true (numB x) with q1 | q1
      · have HST := Lib.hid (all_step k hlt hall.out (by rw [HGX.out]; exact q1))
        go_wp2_with (go_at_call 16; refine (rnumbers_any x _).mono ?_; rintro e w2 ⟨rfl, hb2⟩)
        exact ⟨⟨k + 1, by omega, by go_num, HST, hbel.out.trans (hb2.mono hbs)⟩, by simp [intOf]; omega⟩
      · have H := Lib.hid (check_num HLIM.out qn (all_bad k hlt (by rw [HGX.out]; exact q1)))
        go_wp2_with (go_at_call 16; refine (rnumbers_any x _).mono ?_; rintro e w2 ⟨rfl, hb2⟩)
        go_ret
        exact ⟨ret_int H.out.symm, bthen hbw hb2⟩
    · obtain rfl : k = p.vars.length := by omega
      have hnum : p.vars.all numB = true := all_end hall.out
      have HNUM := Lib.hid hnum
      clear hnum
      obtain ⟨wo, rfl⟩ : ∃ wo : World, wo = wr := ⟨_, rfl⟩
      go_wp2_with fail
      go_loopw [4] (fun i wr => ∃ k : Nat, k ≤ p.rules.length ∧ i = .int .i64 k ∧ Hid ((p.rules.take k).all (formedB · p.vars.length) = true) ∧ Hid (Below (w.heap.size + 1) (w.alloc (.cells #[.string p.name, .slice a0 p.vars.length cap0, .slice a1 p.rules.length cap1] 25)) wr)) (fun i _ => p.rules.length - (intOf i).toNat)
      case atStart => exact ⟨0, by omega, rfl, rfl, hbel⟩
      case round =>
        clear hbel hbw hbs hbox hbox2 hall
        obtain ⟨k, hk, rfl, hall, hbel⟩ := hrel
        have hbw := box_below hbel.out
        have hbs := box_size hbel.out
        have hbox := box_at hbel.out 1
        have hbox2 := box_at hbel.out 2
        simp at hbox hbox2
        by_cases hlt : k < p.rules.length
        · obtain ⟨g, o, rfl, hg, hc⟩ := HRC.out (by omega)
          obtain ⟨x, hx⟩ : ∃ x, p.rules[k]? = some x := ⟨_, List.getElem?_eq_getElem hlt⟩
          obtain ⟨gv, sv, ht, hs, c0, c1, c2⟩ := hc k x hx
          have HT := Lib.hid ht
          have HS := Lib.hid hs
          obtain ⟨ga, gcap, rfl, _, _, _⟩ := ht.open
          obtain ⟨sa, scap, rfl, _, _, _⟩ := sets_open hs
          rw [← hbw.cell (p := ⟨g, _, none⟩) hg] at c0 c1 c2
          have HGX : Hid (p.rules[k] = x) := (List.getElem?_eq_some_iff.1 hx).2
          have HXI := Lib.hid (HIN.out.2.2 x (List.mem_of_getElem? hx))
          have HXL := Lib.hid (HLR.out x (List.mem_of_getElem? hx))
          have HXM := Lib.hid (List.mem_of_getElem? hx)
          clear hc hx ht hs
          have hlt0 : w.heap.size < wr.heap.size := by omega
          have hg2 : g < wr.heap.size := by omega
          have ik0 : (0 : Int) ≤ (k : Int) := by omega
          have ik1 : (k : Int) < (p.rules.length : Int) := by omega
          have SA : wr.cell? ⟨w.heap.size, 2, none⟩ = some (.slice (some ⟨g, o, none⟩) p.rules.length cap1) ∧ wr.cell? ⟨w.heap.size, 1, none⟩ = some (.slice a0 p.vars.length cap0) ∧ wr.cell? ⟨g, o + k * 3, none⟩ = some (.string x.name) ∧ wr.cell? ⟨g, o + k * 3 + 1, none⟩ = some (.slice ga x.guard.length gcap) ∧ wr.cell? ⟨g, o + k * 3 + 2, none⟩ = some (.slice sa x.sets.length scap) := ⟨hbox2, hbox, c0, c1, c2⟩
          rcases Bool.eq_false_or_eq_true (formedB x p.vars.length) with q1 | q1
          · have HST := Lib.hid (all_step (f := fun r : RuleD => formedB r p.vars.length) k hlt hall.out (by rw [HGX.out]; exact q1))
            go_wp2_with fail
            go_region_held3 (fun w' => w'.cell? ⟨w.heap.size, 2, none⟩ = some (.slice (some ⟨g, o, none⟩) p.rules.length cap1) ∧ w'.cell? ⟨w.heap.size, 1, none⟩ = some (.slice a0 p.vars.length cap0) ∧ w'.cell? ⟨g, o + k * 3, none⟩ = some (.string x.name) ∧ w'.cell? ⟨g, o + k * 3 + 1, none⟩ = some (.slice ga x.guard.length gcap) ∧ w'.cell? ⟨g, o + k * 3 + 2, none⟩ = some (.slice sa x.sets.length scap)) (first | exact SB | exact SA)
              (first | (go_at_call 17; refine (rformed_any _ _ x p.vars.length _ (by exact HT.out.below hbw.drew) (by exact HS.out.below hbw.drew fun _ _ => SetOk.below hbw.drew) HXI.out HXL.out (by omega)).mono ?_; rintro e w2 ⟨rfl, hb2⟩; have SB : w2.cell? ⟨w.heap.size, 2, none⟩ = some (.slice (some ⟨g, o, none⟩) p.rules.length cap1) ∧ w2.cell? ⟨w.heap.size, 1, none⟩ = some (.slice a0 p.vars.length cap0) ∧ w2.cell? ⟨g, o + k * 3, none⟩ = some (.string x.name) ∧ w2.cell? ⟨g, o + k * 3 + 1, none⟩ = some (.slice ga x.guard.length gcap) ∧ w2.cell? ⟨g, o + k * 3 + 2, none⟩ = some (.slice sa x.sets.length scap) := ⟨(hb2.cell (p := ⟨_, _, none⟩) hlt0).trans hbox2, (hb2.cell (p := ⟨_, _, none⟩) hlt0).trans hbox, (hb2.cell (p := ⟨_, _, none⟩) hg2).trans c0, (hb2.cell (p := ⟨_, _, none⟩) hg2).trans c1, (hb2.cell (p := ⟨_, _, none⟩) hg2).trans c2⟩))
            go_wp2_with fail
            exact ⟨⟨k + 1, by omega, by go_num, HST, hbel.out.drew.trans (hb2.mono (by simpa using hbs))⟩, by simp [intOf]; omega⟩
          · have H := Lib.hid (check_form HLIM.out qn HNUM.out (all_bad k hlt (by rw [HGX.out]; exact q1)))
            go_wp2_with fail
            go_region_held3 (fun w' => w'.cell? ⟨w.heap.size, 2, none⟩ = some (.slice (some ⟨g, o, none⟩) p.rules.length cap1) ∧ w'.cell? ⟨w.heap.size, 1, none⟩ = some (.slice a0 p.vars.length cap0) ∧ w'.cell? ⟨g, o + k * 3, none⟩ = some (.string x.name) ∧ w'.cell? ⟨g, o + k * 3 + 1, none⟩ = some (.slice ga x.guard.length gcap) ∧ w'.cell? ⟨g, o + k * 3 + 2, none⟩ = some (.slice sa x.sets.length scap)) (first | exact SB | exact SA)
              (first | (go_at_call 17; refine (rformed_any _ _ x p.vars.length _ (by exact HT.out.below hbw.drew) (by exact HS.out.below hbw.drew fun _ _ => SetOk.below hbw.drew) HXI.out HXL.out (by omega)).mono ?_; rintro e w2 ⟨rfl, hb2⟩; have SB : w2.cell? ⟨w.heap.size, 2, none⟩ = some (.slice (some ⟨g, o, none⟩) p.rules.length cap1) ∧ w2.cell? ⟨w.heap.size, 1, none⟩ = some (.slice a0 p.vars.length cap0) ∧ w2.cell? ⟨g, o + k * 3, none⟩ = some (.string x.name) ∧ w2.cell? ⟨g, o + k * 3 + 1, none⟩ = some (.slice ga x.guard.length gcap) ∧ w2.cell? ⟨g, o + k * 3 + 2, none⟩ = some (.slice sa x.sets.length scap) := ⟨(hb2.cell (p := ⟨_, _, none⟩) hlt0).trans hbox2, (hb2.cell (p := ⟨_, _, none⟩) hlt0).trans hbox, (hb2.cell (p := ⟨_, _, none⟩) hg2).trans c0, (hb2.cell (p := ⟨_, _, none⟩) hg2).trans c1, (hb2.cell (p := ⟨_, _, none⟩) hg2).trans c2⟩))
            go_wp2_with fail
            go_ret
            exact ⟨ret_int H.out.symm, bthen hbw.drew hb2⟩
        · obtain rfl : k = p.rules.length := by omega
          have hform : p.rules.all (formedB · p.vars.length) = true := all_end hall.out
          have HFORM := Lib.hid hform
          clear hform
          obtain ⟨wo2, rfl⟩ : ∃ wo2 : World, wo2 = wr := ⟨_, rfl⟩
          have hbox0 := box_at hbel.out 0
          simp at hbox0
          have HKL := Lib.hid (show (kindsOf p).length = p.vars.length by simp [kindsOf])
          go_wp2_with fail
          go_loopw [5] (fun i wr => ∃ k : Nat, k ≤ p.rules.length ∧ i = .int .i64 k ∧ Hid ((p.rules.take k).all (typedB · (kindsOf p)) = true) ∧ Hid (Below (w.heap.size + 1) (w.alloc (.cells #[.string p.name, .slice a0 p.vars.length cap0, .slice a1 p.rules.length cap1] 25)) wr)) (fun i _ => p.rules.length - (intOf i).toNat)
          case atStart => exact ⟨0, by omega, rfl, rfl, hbel⟩
          case round =>
            clear hbel hbw hbs hbox hbox2 hall hbox0
            obtain ⟨k, hk, rfl, hall, hbel⟩ := hrel
            have hbw := box_below hbel.out
            have hbs := box_size hbel.out
            have hbox0 := box_at hbel.out 0
            have hbox := box_at hbel.out 1
            have hbox2 := box_at hbel.out 2
            simp at hbox hbox2 hbox0
            by_cases hlt : k < p.rules.length
            · obtain ⟨g, o, rfl, hg, hc⟩ := HRC.out (by omega)
              obtain ⟨x, hx⟩ : ∃ x, p.rules[k]? = some x := ⟨_, List.getElem?_eq_getElem hlt⟩
              obtain ⟨gv, sv, ht, hs, c0, c1, c2⟩ := hc k x hx
              have HT := Lib.hid ht
              have HS := Lib.hid hs
              obtain ⟨ga, gcap, rfl, _, _, _⟩ := ht.open
              obtain ⟨sa, scap, rfl, _, _, _⟩ := sets_open hs
              rw [← hbw.cell (p := ⟨g, _, none⟩) hg] at c0 c1 c2
              have HGX : Hid (p.rules[k] = x) := (List.getElem?_eq_some_iff.1 hx).2
              have HXI := Lib.hid (HIN.out.2.2 x (List.mem_of_getElem? hx))
              have HXL := Lib.hid (HLR.out x (List.mem_of_getElem? hx))
              have HXM := Lib.hid (List.mem_of_getElem? hx)
              clear hc hx ht hs
              have HFX := Lib.hid (List.all_eq_true.1 HFORM.out x HXM.out)
              have hlt0 : w.heap.size < wr.heap.size := by omega
              have hg2 : g < wr.heap.size := by omega
              have ik0 : (0 : Int) ≤ (k : Int) := by omega
              have ik1 : (k : Int) < (p.rules.length : Int) := by omega
              have SA : wr.cell? ⟨w.heap.size, 2, none⟩ = some (.slice (some ⟨g, o, none⟩) p.rules.length cap1) ∧ wr.cell? ⟨w.heap.size, 1, none⟩ = some (.slice a0 p.vars.length cap0) ∧ wr.cell? ⟨w.heap.size, 0, none⟩ = some (.string p.name) ∧ wr.cell? ⟨g, o + k * 3, none⟩ = some (.string x.name) ∧ wr.cell? ⟨g, o + k * 3 + 1, none⟩ = some (.slice ga x.guard.length gcap) ∧ wr.cell? ⟨g, o + k * 3 + 2, none⟩ = some (.slice sa x.sets.length scap) := ⟨hbox2, hbox, hbox0, c0, c1, c2⟩
              rcases Bool.eq_false_or_eq_true (typedB x (kindsOf p)) with q1 | q1
              · have HST := Lib.hid (all_step (f := fun r : RuleD => typedB r (kindsOf p)) k hlt hall.out (by rw [HGX.out]; exact q1))
                go_wp2_with fail
                go_region_held3 (fun w' => w'.cell? ⟨w.heap.size, 2, none⟩ = some (.slice (some ⟨g, o, none⟩) p.rules.length cap1) ∧ w'.cell? ⟨w.heap.size, 1, none⟩ = some (.slice a0 p.vars.length cap0) ∧ w'.cell? ⟨w.heap.size, 0, none⟩ = some (.string p.name) ∧ w'.cell? ⟨g, o + k * 3, none⟩ = some (.string x.name) ∧ w'.cell? ⟨g, o + k * 3 + 1, none⟩ = some (.slice ga x.guard.length gcap) ∧ w'.cell? ⟨g, o + k * 3 + 2, none⟩ = some (.slice sa x.sets.length scap)) (first | exact SB | exact SC | exact SA)
                  (first | (go_at_call 18; refine (rtyped_any _ _ _ x (kindsOf p) _ (by exact HT.out.below (bthen hbw.drew hb3)) (by exact HS.out.below (bthen hbw.drew hb3) fun _ _ => SetOk.below (bthen hbw.drew hb3)) HKV.out HXL.out (by rw [HKL.out]; omega) (kinds_of_num HNUM.out) (by rw [HKL.out]; exact HFX.out)).mono ?_; rintro e w4 ⟨rfl, hb4⟩; have SB : w4.cell? ⟨w.heap.size, 2, none⟩ = some (.slice (some ⟨g, o, none⟩) p.rules.length cap1) ∧ w4.cell? ⟨w.heap.size, 1, none⟩ = some (.slice a0 p.vars.length cap0) ∧ w4.cell? ⟨w.heap.size, 0, none⟩ = some (.string p.name) ∧ w4.cell? ⟨g, o + k * 3, none⟩ = some (.string x.name) ∧ w4.cell? ⟨g, o + k * 3 + 1, none⟩ = some (.slice ga x.guard.length gcap) ∧ w4.cell? ⟨g, o + k * 3 + 2, none⟩ = some (.slice sa x.sets.length scap) := ⟨((bthen hb3 hb4).cell (p := ⟨_, _, none⟩) hlt0).trans hbox2, ((bthen hb3 hb4).cell (p := ⟨_, _, none⟩) hlt0).trans hbox, ((bthen hb3 hb4).cell (p := ⟨_, _, none⟩) hlt0).trans hbox0, ((bthen hb3 hb4).cell (p := ⟨_, _, none⟩) hg2).trans c0, ((bthen hb3 hb4).cell (p := ⟨_, _, none⟩) hg2).trans c1, ((bthen hb3 hb4).cell (p := ⟨_, _, none⟩) hg2).trans c2⟩) | (go_at_call 19; refine (rkinds_any _ p _ (by exact HP.out.below hbw.drew) (by omega)).mono ?_; rintro e w3 ⟨kv, rfl, hkv, hb3⟩; have HKV := Lib.hid hkv; clear hkv; have SC : w3.cell? ⟨w.heap.size, 2, none⟩ = some (.slice (some ⟨g, o, none⟩) p.rules.length cap1) ∧ w3.cell? ⟨w.heap.size, 1, none⟩ = some (.slice a0 p.vars.length cap0) ∧ w3.cell? ⟨w.heap.size, 0, none⟩ = some (.string p.name) ∧ w3.cell? ⟨g, o + k * 3, none⟩ = some (.string x.name) ∧ w3.cell? ⟨g, o + k * 3 + 1, none⟩ = some (.slice ga x.guard.length gcap) ∧ w3.cell? ⟨g, o + k * 3 + 2, none⟩ = some (.slice sa x.sets.length scap) := ⟨(hb3.cell (p := ⟨_, _, none⟩) hlt0).trans hbox2, (hb3.cell (p := ⟨_, _, none⟩) hlt0).trans hbox, (hb3.cell (p := ⟨_, _, none⟩) hlt0).trans hbox0, (hb3.cell (p := ⟨_, _, none⟩) hg2).trans c0, (hb3.cell (p := ⟨_, _, none⟩) hg2).trans c1, (hb3.cell (p := ⟨_, _, none⟩) hg2).trans c2⟩))
                go_wp2_with fail
                exact ⟨⟨k + 1, by omega, by go_num, HST, hbel.out.drew.trans ((bthen hb3 hb4).mono (by simpa using hbs))⟩, by simp [intOf]; omega⟩
              · have H := Lib.hid (check_type HLIM.out qn HNUM.out HFORM.out (all_bad k hlt (by rw [HGX.out]; exact q1)))
                go_wp2_with fail
                go_region_held3 (fun w' => w'.cell? ⟨w.heap.size, 2, none⟩ = some (.slice (some ⟨g, o, none⟩) p.rules.length cap1) ∧ w'.cell? ⟨w.heap.size, 1, none⟩ = some (.slice a0 p.vars.length cap0) ∧ w'.cell? ⟨w.heap.size, 0, none⟩ = some (.string p.name) ∧ w'.cell? ⟨g, o + k * 3, none⟩ = some (.string x.name) ∧ w'.cell? ⟨g, o + k * 3 + 1, none⟩ = some (.slice ga x.guard.length gcap) ∧ w'.cell? ⟨g, o + k * 3 + 2, none⟩ = some (.slice sa x.sets.length scap)) (first | exact SB | exact SC | exact SA)
                  (first | (go_at_call 18; refine (rtyped_any _ _ _ x (kindsOf p) _ (by exact HT.out.below (bthen hbw.drew hb3)) (by exact HS.out.below (bthen hbw.drew hb3) fun _ _ => SetOk.below (bthen hbw.drew hb3)) HKV.out HXL.out (by rw [HKL.out]; omega) (kinds_of_num HNUM.out) (by rw [HKL.out]; exact HFX.out)).mono ?_; rintro e w4 ⟨rfl, hb4⟩; have SB : w4.cell? ⟨w.heap.size, 2, none⟩ = some (.slice (some ⟨g, o, none⟩) p.rules.length cap1) ∧ w4.cell? ⟨w.heap.size, 1, none⟩ = some (.slice a0 p.vars.length cap0) ∧ w4.cell? ⟨w.heap.size, 0, none⟩ = some (.string p.name) ∧ w4.cell? ⟨g, o + k * 3, none⟩ = some (.string x.name) ∧ w4.cell? ⟨g, o + k * 3 + 1, none⟩ = some (.slice ga x.guard.length gcap) ∧ w4.cell? ⟨g, o + k * 3 + 2, none⟩ = some (.slice sa x.sets.length scap) := ⟨((bthen hb3 hb4).cell (p := ⟨_, _, none⟩) hlt0).trans hbox2, ((bthen hb3 hb4).cell (p := ⟨_, _, none⟩) hlt0).trans hbox, ((bthen hb3 hb4).cell (p := ⟨_, _, none⟩) hlt0).trans hbox0, ((bthen hb3 hb4).cell (p := ⟨_, _, none⟩) hg2).trans c0, ((bthen hb3 hb4).cell (p := ⟨_, _, none⟩) hg2).trans c1, ((bthen hb3 hb4).cell (p := ⟨_, _, none⟩) hg2).trans c2⟩) | (go_at_call 19; refine (rkinds_any _ p _ (by exact HP.out.below hbw.drew) (by omega)).mono ?_; rintro e w3 ⟨kv, rfl, hkv, hb3⟩; have HKV := Lib.hid hkv; clear hkv; have SC : w3.cell? ⟨w.heap.size, 2, none⟩ = some (.slice (some ⟨g, o, none⟩) p.rules.length cap1) ∧ w3.cell? ⟨w.heap.size, 1, none⟩ = some (.slice a0 p.vars.length cap0) ∧ w3.cell? ⟨w.heap.size, 0, none⟩ = some (.string p.name) ∧ w3.cell? ⟨g, o + k * 3, none⟩ = some (.string x.name) ∧ w3.cell? ⟨g, o + k * 3 + 1, none⟩ = some (.slice ga x.guard.length gcap) ∧ w3.cell? ⟨g, o + k * 3 + 2, none⟩ = some (.slice sa x.sets.length scap) := ⟨(hb3.cell (p := ⟨_, _, none⟩) hlt0).trans hbox2, (hb3.cell (p := ⟨_, _, none⟩) hlt0).trans hbox, (hb3.cell (p := ⟨_, _, none⟩) hlt0).trans hbox0, (hb3.cell (p := ⟨_, _, none⟩) hg2).trans c0, (hb3.cell (p := ⟨_, _, none⟩) hg2).trans c1, (hb3.cell (p := ⟨_, _, none⟩) hg2).trans c2⟩))
                go_wp2_with fail
                go_ret
                exact ⟨ret_int H.out.symm, bthen hbw.drew (bthen hb3 hb4)⟩
            · obtain rfl : k = p.rules.length := by omega
              have H := Lib.hid (check_ok HLIM.out qn HNUM.out HFORM.out (all_end hall.out))
              go_wp2_with fail
              go_ret
              exact ⟨ret_int H.out.symm, hbw⟩

theorem rvalidP_any (v : Value) (p : ProgD) (w : World) (hv : ProgOk w v p) (hin : ProgIn p) (hlight : LightP p) :
    Calls Try.prog 5 #[v] w fun e w' => e = .returned (.bool (checkF p == 0)) ∧ Below w.heap.size w w' := by
  have HP := Lib.hid hv
  have HIN := Lib.hid hin
  have HL := Lib.hid hlight
  obtain ⟨vv, rv, rfl, hvv, hrv⟩ := hv
  obtain ⟨a0, cap0, rfl, i1, i2, i3⟩ := hvv.open
  obtain ⟨a1, cap1, rfl, j1, j2, j3⟩ := hrv.open
  clear i3 j3 hvv hrv hin hlight
  go_enter Try.func5, Try.ntmps5
  go_wp2_with fail
  refine (rcheck_any _ p _ (by exact box_ok HP.out) HIN.out HL.out).mono ?_
  rintro e w1 ⟨rfl, hb1⟩
  go_wp2_with fail
  go_ret
  exact ⟨rfl, box_below (by simpa using hb1)⟩

end Go.Proofs.Ytogennegbihceaa
