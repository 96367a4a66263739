/- Part 16 of the texts under MemoryReadsAndWrites,MemoryReadsBack: joined, with what it needs alone. -/
import Derived.Test.YtmlkdoimkdbdpaaGreatDoorL5
import Derived.Test.YtmlkdoimkdbdpaaGreatDoorL9
import Derived.Test.YtmlkdoimkdbdpaaGreatDoorL10
import Derived.Test.YtmlkdoimkdbdpaaGreatDoorL12
import Derived.Test.YtmlkdoimkdbdpaaGreatDoorL15
set_option linter.unusedVariables false
set_option maxRecDepth 100000
namespace Go.Proofs.YtmlkdoimkdbdpaaGreatDoor
open Go.RowKit Go.Maps

def LightP (p : ProgD) : Prop := p.vars.length ≤ 1000 ∧ p.rules.length ≤ 1000 ∧ ∀ r ∈ p.rules, LightR r
theorem check_limit {p : ProgD} (h : p.vars.length = 0 ∨ 6 < p.vars.length ∨ 12 < p.rules.length) : yed p = 3 := by unfold yed; rw [if_pos h]
theorem check_name {p : ProgD} (h : ¬ (p.vars.length = 0 ∨ 6 < p.vars.length ∨ 12 < p.rules.length)) (h1 : ycx p = false) : yed p = 5 := by unfold yed; rw [if_neg h, if_pos h1]
theorem check_num {p : ProgD} (h : ¬ (p.vars.length = 0 ∨ 6 < p.vars.length ∨ 12 < p.rules.length)) (h1 : ycx p = true) (h2 : p.vars.all numB = false) : yed p = 2 := by unfold yed; rw [if_neg h, if_neg (by simp [h1]), if_pos h2]
theorem check_form {p : ProgD} (h : ¬ (p.vars.length = 0 ∨ 6 < p.vars.length ∨ 12 < p.rules.length)) (h1 : ycx p = true) (h2 : p.vars.all numB = true) (h3 : p.rules.all (ybv · p.vars.length) = false) : yed p = 7 := by unfold yed; rw [if_neg h, if_neg (by simp [h1]), if_neg (by simp [h2]), if_pos h3]
theorem check_type {p : ProgD} (h : ¬ (p.vars.length = 0 ∨ 6 < p.vars.length ∨ 12 < p.rules.length)) (h1 : ycx p = true) (h2 : p.vars.all numB = true) (h3 : p.rules.all (ybv · p.vars.length) = true) (h4 : p.rules.all (yep · (ybq p)) = false) : yed p = 6 := by unfold yed; rw [if_neg h, if_neg (by simp [h1]), if_neg (by simp [h2]), if_neg (by simp [h3]), if_pos h4]
theorem check_ok {p : ProgD} (h : ¬ (p.vars.length = 0 ∨ 6 < p.vars.length ∨ 12 < p.rules.length)) (h1 : ycx p = true) (h2 : p.vars.all numB = true) (h3 : p.rules.all (ybv · p.vars.length) = true) (h4 : p.rules.all (yep · (ybq p)) = true) : yed p = 0 := by unfold yed; rw [if_neg h, if_neg (by simp [h1]), if_neg (by simp [h2]), if_neg (by simp [h3]), if_neg (by simp [h4])]
theorem formed_vars {r : RuleD} {n : Nat} (h : ybv r n = true) : ∀ s ∈ r.sets, 0 ≤ s.var ∧ s.var < n := by
  rw [formedB_eq] at h
  simp only [Bool.and_eq_true, setsB, List.all_eq_true, setB, ycf, decide_eq_true_eq] at h
  intro s hs
  have := (h.2.2.2.1 s hs).1
  omega
theorem kinds_of_num {p : ProgD} (h : p.vars.all numB = true) : kindsB (ybq p) = true := by
  unfold kindsB ybq
  rw [List.all_map, List.all_eq_true]
  intro x hx
  have := List.all_eq_true.1 h x hx
  unfold numB at this
  rw [Bool.and_eq_true] at this
  exact this.1
theorem box_ok {w : World} {p : ProgD} {a0 a1 : Option Addr} {cap0 cap1 : Nat} (h : yfe w (.agg #[.string p.name, .slice a0 p.vars.length cap0, .slice a1 p.rules.length cap1]) p) : yfe (w.alloc (.cells #[.string p.name, .slice a0 p.vars.length cap0, .slice a1 p.rules.length cap1] 25)) (.agg #[.string p.name, .slice a0 p.vars.length cap0, .slice a1 p.rules.length cap1]) p := h.below ((Below.refl _ _).alloc (Nat.le_refl _) _)

set_option maxHeartbeats 16000000 in
theorem check_any (v : Value) (p : ProgD) (w : World) (hv : yfe w v p) (hin : ProgIn p) (hlight : LightP p) :
    Calls Tryz.prog 60 #[v] w fun e w' => e = .returned (.int .i64 (yed p)) ∧ Below w.heap.size w w' := by
  obtain ⟨hp1, hp2, hp3⟩ := hlight
  have HLR := Lib.hid hp3
  have HP := Lib.hid hv
  have HIN := Lib.hid hin
  obtain ⟨vv, rv, rfl, hvv, hrv⟩ := hv
  obtain ⟨a0, cap0, rfl, i1, i2, i3⟩ := hvv.open
  obtain ⟨a1, cap1, rfl, j1, j2, j3⟩ := hrv.open
  have HVC := Lib.hid i3
  have HRC := Lib.hid j3
  clear i3 j3 hvv hrv hp3 hin
  by_cases h0 : p.vars.length = 0
  · have b0 : ((p.vars.length : Int) == 0) = true := by simp [h0]
    have H := Lib.hid (check_limit (.inl h0))
    have h0' : p.vars.length < 1 := by omega
    clear h0
    go_enter Tryz.func60, Tryz.ntmps60
    go_wp2_with fail
    go_ret
    exact ⟨ybh H.out.symm, (Below.refl _ _).alloc (Nat.le_refl _) _⟩
  have b0 : ((p.vars.length : Int) == 0) = false := beq_eq_false_iff_ne.2 (by omega)
  by_cases h6 : 6 < p.vars.length
  · have H := Lib.hid (check_limit (.inr (.inl h6)))
    go_enter Tryz.func60, Tryz.ntmps60
    go_wp2_with fail
    go_ret
    exact ⟨ybh H.out.symm, (Below.refl _ _).alloc (Nat.le_refl _) _⟩
  have b6 : decide (6 < p.vars.length) = false := by simp; omega
  have b6' : decide (6 < (p.vars.length : Int)) = false := by simp; omega
  by_cases h12 : 12 < p.rules.length
  · have H := Lib.hid (check_limit (.inr (.inr h12)))
    go_enter Tryz.func60, Tryz.ntmps60
    go_wp2_with fail
    go_ret
    exact ⟨ybh H.out.symm, (Below.refl _ _).alloc (Nat.le_refl _) _⟩
  have b12 : decide (12 < p.rules.length) = false := by simp; omega
  have b12' : decide (12 < (p.rules.length : Int)) = false := by simp; omega
  have HLIM := Lib.hid (show ¬ (p.vars.length = 0 ∨ 6 < p.vars.length ∨ 12 < p.rules.length) by omega)
  have HN0 := Lib.hid h0
  have h0' : 0 < p.vars.length := by omega
  clear h0
  rcases Bool.eq_false_or_eq_true (ycx p) with qn | qn
  rotate_left
  · have H := Lib.hid (check_name HLIM.out qn)
    go_enter Tryz.func60, Tryz.ntmps60
    go_wp2_with fail
    refine (named_any _ p _ (by exact box_ok HP.out) HIN.out (by omega) (by omega)).mono ?_
    rintro e w1 ⟨rfl, hb1⟩
    go_wp2_with fail
    go_ret
    exact ⟨ybh H.out.symm, ybd (by simpa using hb1)⟩
  go_enter Tryz.func60, Tryz.ntmps60
  go_wp2_with fail
  refine (named_any _ p _ (by exact box_ok HP.out) HIN.out (by omega) (by omega)).mono ?_
  rintro e w1 ⟨rfl, hb1'⟩
  have hb1 : Below (w.heap.size + 1) (w.alloc (.cells #[.string p.name, .slice a0 p.vars.length cap0, .slice a1 p.rules.length cap1] 25)) w1 := by simpa using hb1'
  have hbox := ycm hb1 1
  simp at hbox
  clear hb1'
  go_wp2_with fail
  clear hbox
  go_loopw [4, 32] (fun _ i wr => ∃ k : Nat, k ≤ p.vars.length ∧ i = .int .i64 k ∧ Hid ((p.vars.take k).all numB = true) ∧ Hid (Below (w.heap.size + 1) (w.alloc (.cells #[.string p.name, .slice a0 p.vars.length cap0, .slice a1 p.rules.length cap1] 25)) wr)) (fun _ i _ => p.vars.length - (intOf i).toNat)
  case atStart => exact ⟨0, by omega, rfl, rfl, hb1⟩
  case round =>
    clear hb1
    obtain ⟨k, hk, rfl, hall, hbel⟩ := hrel
    have hbw := ybd hbel.out
    have hbs := ycd hbel.out
    have hbox := ycm hbel.out 1
    have hbox2 := ycm hbel.out 2
    simp at hbox hbox2
    by_cases hlt : k < p.vars.length
    · obtain ⟨g, o, rfl, hg, hc⟩ := HVC.out (by omega)
      obtain ⟨x, hx⟩ : ∃ x, p.vars[k]? = some x := ⟨_, List.getElem?_eq_getElem hlt⟩
      obtain ⟨c0, c1, c2, c3, c4, c5⟩ := hc k x hx
      rw [← hbw.cell (p := ⟨g, _, none⟩) hg] at c0 c1 c2 c3 c4 c5
      have HGX : Hid (p.vars[k] = x) := (List.getElem?_eq_some_iff.1 hx).2
      clear hc hx
      rcases Bool.eq_false_or_eq_true (numB x) with q1 | q1
      · have HST := Lib.hid (yfg k hlt hall.out (by rw [HGX.out]; exact q1))
        go_wp2_with (go_at_call 76; refine (numbers_any x _).mono ?_; rintro e w2 ⟨rfl, hb2⟩)
        exact ⟨⟨k + 1, by omega, by go_num, HST, (hbel.out.alloc hbs _).trans (hb2.mono (by simp; omega))⟩, by simp [intOf]; omega⟩
      · have H := Lib.hid (check_num HLIM.out qn (yff k hlt (by rw [HGX.out]; exact q1)))
        go_wp2_with (go_at_call 76; refine (numbers_any x _).mono ?_; rintro e w2 ⟨rfl, hb2⟩)
        go_ret
        exact ⟨ybh H.out.symm, (hbw.alloc (by omega) _).trans (hb2.mono (by simp; omega))⟩
    · obtain rfl : k = p.vars.length := by omega
      have hnum : p.vars.all numB = true := all_end hall.out
      have HNUM := Lib.hid hnum
      clear hnum
      obtain ⟨wo, rfl⟩ : ∃ wo : World, wo = wr := ⟨_, rfl⟩
      go_wp2_with fail
      go_loopw [6, 43] (fun _ i wr => ∃ k : Nat, k ≤ p.rules.length ∧ i = .int .i64 k ∧ Hid ((p.rules.take k).all (ybv · p.vars.length) = true) ∧ Hid (Below (w.heap.size + 1) (w.alloc (.cells #[.string p.name, .slice a0 p.vars.length cap0, .slice a1 p.rules.length cap1] 25)) wr)) (fun _ i _ => p.rules.length - (intOf i).toNat)
      case atStart => exact ⟨0, by omega, rfl, rfl, hbel⟩
      case round =>
        clear hbel hbw hbs hbox hbox2 hall
        obtain ⟨k, hk, rfl, hall, hbel⟩ := hrel
        have hbw := ybd hbel.out
        have hbs := ycd hbel.out
        have hbox := ycm hbel.out 1
        have hbox2 := ycm hbel.out 2
        simp at hbox hbox2
        by_cases hlt : k < p.rules.length
        · obtain ⟨g, o, rfl, hg, hc⟩ := HRC.out (by omega)
          obtain ⟨x, hx⟩ : ∃ x, p.rules[k]? = some x := ⟨_, List.getElem?_eq_getElem hlt⟩
          obtain ⟨gv, sv, ht, hs, c0, c1, c2⟩ := hc k x hx
          have HT := Lib.hid ht
          have HS := Lib.hid hs
          obtain ⟨ga, gcap, rfl, _, _, _⟩ := ht.open
          obtain ⟨sa, scap, rfl, _, _, _⟩ := yem hs
          rw [← hbw.cell (p := ⟨g, _, none⟩) hg] at c0 c1 c2
          have HGX : Hid (p.rules[k] = x) := (List.getElem?_eq_some_iff.1 hx).2
          have HXI := Lib.hid (HIN.out.2.2 x (List.mem_of_getElem? hx))
          have HXL := Lib.hid (HLR.out x (List.mem_of_getElem? hx))
          have HXM := Lib.hid (List.mem_of_getElem? hx)
          clear hc hx ht hs
          have hlt0 : w.heap.size < wr.heap.size := by omega
          have hne0 : w.heap.size ≠ wr.heap.size := by omega
          rcases Bool.eq_false_or_eq_true (ybv x p.vars.length) with q1 | q1
          · have HST := Lib.hid (yfg (f := fun r : RuleD => ybv r p.vars.length) k hlt hall.out (by rw [HGX.out]; exact q1))
            go_wp2_with fail
            refine (formed_any _ _ x p.vars.length _ (by exact HT.out.below (hbw.alloc (by omega) _)) (by exact HS.out.below (hbw.alloc (by omega) _) fun _ _ => SetOk.below (hbw.alloc (by omega) _)) HXI.out HXL.out (by omega)).mono ?_
            rintro e w2 ⟨rfl, hb2⟩
            go_wp2_with fail
            exact ⟨⟨k + 1, by omega, by go_num, HST, (hbel.out.alloc hbs _).trans (hb2.mono (by simp; omega))⟩, by simp [intOf]; omega⟩
          · have H := Lib.hid (check_form HLIM.out qn HNUM.out (yff k hlt (by rw [HGX.out]; exact q1)))
            go_wp2_with fail
            refine (formed_any _ _ x p.vars.length _ (by exact HT.out.below (hbw.alloc (by omega) _)) (by exact HS.out.below (hbw.alloc (by omega) _) fun _ _ => SetOk.below (hbw.alloc (by omega) _)) HXI.out HXL.out (by omega)).mono ?_
            rintro e w2 ⟨rfl, hb2⟩
            go_wp2_with fail
            go_ret
            exact ⟨ybh H.out.symm, (hbw.alloc (by omega) _).trans (hb2.mono (by simp; omega))⟩
        · obtain rfl : k = p.rules.length := by omega
          have hform : p.rules.all (ybv · p.vars.length) = true := all_end hall.out
          have HFORM := Lib.hid hform
          clear hform
          obtain ⟨wo2, rfl⟩ : ∃ wo2 : World, wo2 = wr := ⟨_, rfl⟩
          have hbox0 := ycm hbel.out 0
          simp at hbox0
          have HKL := Lib.hid (show (ybq p).length = p.vars.length by simp [ybq])
          go_wp2_with fail
          refine (kinds_any _ p _ (by exact HP.out.below hbw) (by omega)).mono ?_
          rintro e w3 ⟨kv, rfl, hkv, hb3⟩
          have HKV := Lib.hid hkv
          have hbel3 : Hid (Below (w.heap.size + 1) (w.alloc (.cells #[.string p.name, .slice a0 p.vars.length cap0, .slice a1 p.rules.length cap1] 25)) w3) := hbel.out.trans (hb3.mono hbs)
          clear hkv hbel hb3 hbw hbs hbox hbox2 hall hbox0
          have hbox2 := ycm hbel3.out 2
          simp at hbox2
          go_wp2_with fail
          clear hbox2
          go_loopw [9, 59] (fun _ i wr => ∃ k : Nat, k ≤ p.rules.length ∧ i = .int .i64 k ∧ Hid ((p.rules.take k).all (yep · (ybq p)) = true) ∧ Hid (Below w3.heap.size w3 wr) ∧ Hid (Below (w.heap.size + 1) (w.alloc (.cells #[.string p.name, .slice a0 p.vars.length cap0, .slice a1 p.rules.length cap1] 25)) wr)) (fun _ i _ => p.rules.length - (intOf i).toNat)
          case atStart => exact ⟨0, by omega, rfl, rfl, Below.refl _ _, hbel3⟩
          case round =>
            clear hbel3
            obtain ⟨k, hk, rfl, hall, hb3, hbel⟩ := hrel
            have hbw := ybd hbel.out
            have hbs := ycd hbel.out
            by_cases hlt : k < p.rules.length
            · obtain ⟨g, o, rfl, hg, hc⟩ := HRC.out (by omega)
              obtain ⟨x, hx⟩ : ∃ x, p.rules[k]? = some x := ⟨_, List.getElem?_eq_getElem hlt⟩
              obtain ⟨gv, sv, ht, hs, c0, c1, c2⟩ := hc k x hx
              have HT := Lib.hid ht
              have HS := Lib.hid hs
              obtain ⟨ga, gcap, rfl, _, _, _⟩ := ht.open
              obtain ⟨sa, scap, rfl, _, _, _⟩ := yem hs
              rw [← hbw.cell (p := ⟨g, _, none⟩) hg] at c0 c1 c2
              have HGX : Hid (p.rules[k] = x) := (List.getElem?_eq_some_iff.1 hx).2
              have HXI := Lib.hid (HIN.out.2.2 x (List.mem_of_getElem? hx))
              have HXL := Lib.hid (HLR.out x (List.mem_of_getElem? hx))
              have HXM := Lib.hid (List.mem_of_getElem? hx)
              clear hc hx ht hs
              have HVAR := Lib.hid (formed_vars (n := p.vars.length) (List.all_eq_true.1 HFORM.out x HXM.out))
              rcases Bool.eq_false_or_eq_true (yep x (ybq p)) with q1 | q1
              · have HST := Lib.hid (yfg (f := fun r : RuleD => yep r (ybq p)) k hlt hall.out (by rw [HGX.out]; exact q1))
                go_wp2_with fail
                refine (typed_any _ _ _ x (ybq p) _ (by exact HT.out.below (hbw.alloc (by omega) _)) (by exact HS.out.below (hbw.alloc (by omega) _) fun _ _ => SetOk.below (hbw.alloc (by omega) _)) (by exact HKV.out.below (hb3.out.alloc hb3.out.size _)) HXL.out (by rw [HKL.out]; exact HVAR.out)).mono ?_
                rintro e w4 ⟨rfl, hb4⟩
                go_wp2_with fail
                exact ⟨⟨k + 1, by omega, by go_num, HST, (hb3.out.alloc hb3.out.size _).trans (hb4.mono (by have := hb3.out.size; simp; omega)), (hbel.out.alloc hbs _).trans (hb4.mono (by simp; omega))⟩, by simp [intOf]; omega⟩
              · have H := Lib.hid (check_type HLIM.out qn HNUM.out HFORM.out (yff k hlt (by rw [HGX.out]; exact q1)))
                go_wp2_with fail
                refine (typed_any _ _ _ x (ybq p) _ (by exact HT.out.below (hbw.alloc (by omega) _)) (by exact HS.out.below (hbw.alloc (by omega) _) fun _ _ => SetOk.below (hbw.alloc (by omega) _)) (by exact HKV.out.below (hb3.out.alloc hb3.out.size _)) HXL.out (by rw [HKL.out]; exact HVAR.out)).mono ?_
                rintro e w4 ⟨rfl, hb4⟩
                go_wp2_with fail
                go_ret
                exact ⟨ybh H.out.symm, (hbw.alloc (by omega) _).trans (hb4.mono (by simp; omega))⟩
            · obtain rfl : k = p.rules.length := by omega
              have H := Lib.hid (check_ok HLIM.out qn HNUM.out HFORM.out (all_end hall.out))
              go_wp2_with fail
              go_ret
              exact ⟨ybh H.out.symm, hbw⟩

theorem validP_any (v : Value) (p : ProgD) (w : World) (hv : yfe w v p) (hin : ProgIn p) (hlight : LightP p) :
    Calls Tryz.prog 44 #[v] w fun e w' => e = .returned (.bool (yed p == 0)) ∧ Below w.heap.size w w' := by
  have HP := Lib.hid hv
  have HIN := Lib.hid hin
  have HL := Lib.hid hlight
  obtain ⟨vv, rv, rfl, hvv, hrv⟩ := hv
  obtain ⟨a0, cap0, rfl, i1, i2, i3⟩ := hvv.open
  obtain ⟨a1, cap1, rfl, j1, j2, j3⟩ := hrv.open
  clear i3 j3 hvv hrv hin hlight
  go_enter Tryz.func44, Tryz.ntmps44
  go_wp2_with fail
  refine (check_any _ p _ (by exact box_ok HP.out) HIN.out HL.out).mono ?_
  rintro e w1 ⟨rfl, hb1⟩
  go_wp2_with fail
  go_ret
  exact ⟨rfl, ybd (by simpa using hb1)⟩

set_option maxHeartbeats 16000000 in
theorem rcheck_any (v : Value) (p : ProgD) (w : World) (hv : yfe w v p) (hin : ProgIn p) (hlight : LightP p) :
    Calls Tryz.prog 70 #[v] w fun e w' => e = .returned (.int .i64 (yed p)) ∧ Below w.heap.size w w' := by
  obtain ⟨hp1, hp2, hp3⟩ := hlight
  have HLR := Lib.hid hp3
  have HP := Lib.hid hv
  have HIN := Lib.hid hin
  obtain ⟨vv, rv, rfl, hvv, hrv⟩ := hv
  obtain ⟨a0, cap0, rfl, i1, i2, i3⟩ := hvv.open
  obtain ⟨a1, cap1, rfl, j1, j2, j3⟩ := hrv.open
  have HVC := Lib.hid i3
  have HRC := Lib.hid j3
  clear i3 j3 hvv hrv hp3 hin
  rcases Bool.eq_false_or_eq_true (ycf p.vars.length 1 6) with qw | qw
  rotate_left
  · have H := Lib.hid (check_limit (p := p) (by simp [ycf] at qw; omega))
    go_enter Tryz.func70, Tryz.ntmps70
    go_wp2_with (go_at_call 84; refine (yeg _ _ _ _).mono ?_; rintro e w2 ⟨rfl, rfl⟩)
    go_ret
    exact ⟨ybh H.out.symm, (Below.refl _ _).alloc (Nat.le_refl _) _⟩
  have h0 : ¬ p.vars.length = 0 := by simp [ycf] at qw; omega
  have h6 : ¬ 6 < p.vars.length := by simp [ycf] at qw; omega
  by_cases h12 : 12 < p.rules.length
  · have H := Lib.hid (check_limit (.inr (.inr h12)))
    go_enter Tryz.func70, Tryz.ntmps70
    go_wp2_with (go_at_call 84; refine (yeg _ _ _ _).mono ?_; rintro e w2 ⟨rfl, rfl⟩)
    go_ret
    exact ⟨ybh H.out.symm, (Below.refl _ _).alloc (Nat.le_refl _) _⟩
  have b12 : decide (12 < p.rules.length) = false := by simp; omega
  have b12' : decide (12 < (p.rules.length : Int)) = false := by simp; omega
  have HLIM := Lib.hid (show ¬ (p.vars.length = 0 ∨ 6 < p.vars.length ∨ 12 < p.rules.length) by omega)
  have HN0 := Lib.hid h0
  have h0' : 0 < p.vars.length := by omega
  clear h0
  rcases Bool.eq_false_or_eq_true (ycx p) with qn | qn
  rotate_left
  · have H := Lib.hid (check_name HLIM.out qn)
    go_enter Tryz.func70, Tryz.ntmps70
    go_wp2_with (go_at_call 84; refine (yeg _ _ _ _).mono ?_; rintro e w2 ⟨rfl, rfl⟩)
    refine (rnamed_any _ p _ (by exact box_ok HP.out) HIN.out (by omega) (by omega)).mono ?_
    rintro e w1 ⟨rfl, hb1⟩
    go_wp2_with fail
    go_ret
    exact ⟨ybh H.out.symm, ybd (by simpa using hb1)⟩
  go_enter Tryz.func70, Tryz.ntmps70
  go_wp2_with (go_at_call 84; refine (yeg _ _ _ _).mono ?_; rintro e w2 ⟨rfl, rfl⟩)
  refine (rnamed_any _ p _ (by exact box_ok HP.out) HIN.out (by omega) (by omega)).mono ?_
  rintro e w1 ⟨rfl, hb1'⟩
  have hb1 : Below (w.heap.size + 1) (w.alloc (.cells #[.string p.name, .slice a0 p.vars.length cap0, .slice a1 p.rules.length cap1] 25)) w1 := by simpa using hb1'
  have hbox := ycm hb1 1
  simp at hbox
  clear hb1'
  go_wp2_with fail
  clear hbox
  go_loopw [3] (fun i wr => ∃ k : Nat, k ≤ p.vars.length ∧ i = .int .i64 k ∧ Hid ((p.vars.take k).all numB = true) ∧ Hid (Below (w.heap.size + 1) (w.alloc (.cells #[.string p.name, .slice a0 p.vars.length cap0, .slice a1 p.rules.length cap1] 25)) wr)) (fun i _ => p.vars.length - (intOf i).toNat)
  case atStart => exact ⟨0, by omega, rfl, rfl, hb1⟩
  case round =>
    clear hb1
    obtain ⟨k, hk, rfl, hall, hbel⟩ := hrel
    have hbw := ybd hbel.out
    have hbs := ycd hbel.out
    have hbox := ycm hbel.out 1
    have hbox2 := ycm hbel.out 2
    simp at hbox hbox2
    by_cases hlt : k < p.vars.length
    · obtain ⟨g, o, rfl, hg, hc⟩ := HVC.out (by omega)
      obtain ⟨x, hx⟩ : ∃ x, p.vars[k]? = some x := ⟨_, List.getElem?_eq_getElem hlt⟩
      obtain ⟨c0, c1, c2, c3, c4, c5⟩ := hc k x hx
      rw [← hbw.cell (p := ⟨g, _, none⟩) hg] at c0 c1 c2 c3 c4 c5
      have HGX : Hid (p.vars[k] = x) := (List.getElem?_eq_some_iff.1 hx).2
      clear hc hx
      rcases Bool.eq_false_or_eq_true (numB x) with q1 | q1
      · have HST := Lib.hid (yfg k hlt hall.out (by rw [HGX.out]; exact q1))
        go_wp2_with (go_at_call 86; refine (rnumbers_any x _).mono ?_; rintro e w2 ⟨rfl, hb2⟩)
        exact ⟨⟨k + 1, by omega, by go_num, HST, hbel.out.trans (hb2.mono hbs)⟩, by simp [intOf]; omega⟩
      · have H := Lib.hid (check_num HLIM.out qn (yff k hlt (by rw [HGX.out]; exact q1)))
        go_wp2_with (go_at_call 86; refine (rnumbers_any x _).mono ?_; rintro e w2 ⟨rfl, hb2⟩)
        go_ret
        exact ⟨ybh H.out.symm, ydn hbw hb2⟩
    · obtain rfl : k = p.vars.length := by omega
      have hnum : p.vars.all numB = true := all_end hall.out
      have HNUM := Lib.hid hnum
      clear hnum
      obtain ⟨wo, rfl⟩ : ∃ wo : World, wo = wr := ⟨_, rfl⟩
      go_wp2_with fail
      go_loopw [4] (fun i wr => ∃ k : Nat, k ≤ p.rules.length ∧ i = .int .i64 k ∧ Hid ((p.rules.take k).all (ybv · p.vars.length) = true) ∧ Hid (Below (w.heap.size + 1) (w.alloc (.cells #[.string p.name, .slice a0 p.vars.length cap0, .slice a1 p.rules.length cap1] 25)) wr)) (fun i _ => p.rules.length - (intOf i).toNat)
      case atStart => exact ⟨0, by omega, rfl, rfl, hbel⟩
      case round =>
        clear hbel hbw hbs hbox hbox2 hall
        obtain ⟨k, hk, rfl, hall, hbel⟩ := hrel
        have hbw := ybd hbel.out
        have hbs := ycd hbel.out
        have hbox := ycm hbel.out 1
        have hbox2 := ycm hbel.out 2
        simp at hbox hbox2
        by_cases hlt : k < p.rules.length
        · obtain ⟨g, o, rfl, hg, hc⟩ := HRC.out (by omega)
          obtain ⟨x, hx⟩ : ∃ x, p.rules[k]? = some x := ⟨_, List.getElem?_eq_getElem hlt⟩
          obtain ⟨gv, sv, ht, hs, c0, c1, c2⟩ := hc k x hx
          have HT := Lib.hid ht
          have HS := Lib.hid hs
          obtain ⟨ga, gcap, rfl, _, _, _⟩ := ht.open
          obtain ⟨sa, scap, rfl, _, _, _⟩ := yem hs
          rw [← hbw.cell (p := ⟨g, _, none⟩) hg] at c0 c1 c2
          have HGX : Hid (p.rules[k] = x) := (List.getElem?_eq_some_iff.1 hx).2
          have HXI := Lib.hid (HIN.out.2.2 x (List.mem_of_getElem? hx))
          have HXL := Lib.hid (HLR.out x (List.mem_of_getElem? hx))
          have HXM := Lib.hid (List.mem_of_getElem? hx)
          clear hc hx ht hs
          have hlt0 : w.heap.size < wr.heap.size := by omega
          have hg2 : g < wr.heap.size := by omega
          have ik0 : (0 : Int) ≤ (k : Int) := by omega
          have ik1 : (k : Int) < (p.rules.length : Int) := by omega
          have SA : wr.cell? ⟨w.heap.size, 2, none⟩ = some (.slice (some ⟨g, o, none⟩) p.rules.length cap1) ∧ wr.cell? ⟨w.heap.size, 1, none⟩ = some (.slice a0 p.vars.length cap0) ∧ wr.cell? ⟨g, o + k * 3, none⟩ = some (.string x.name) ∧ wr.cell? ⟨g, o + k * 3 + 1, none⟩ = some (.slice ga x.guard.length gcap) ∧ wr.cell? ⟨g, o + k * 3 + 2, none⟩ = some (.slice sa x.sets.length scap) := ⟨hbox2, hbox, c0, c1, c2⟩
          rcases Bool.eq_false_or_eq_true (ybv x p.vars.length) with q1 | q1
          · have HST := Lib.hid (yfg (f := fun r : RuleD => ybv r p.vars.length) k hlt hall.out (by rw [HGX.out]; exact q1))
            go_wp2_with fail
            go_region_held3 (fun w' => w'.cell? ⟨w.heap.size, 2, none⟩ = some (.slice (some ⟨g, o, none⟩) p.rules.length cap1) ∧ w'.cell? ⟨w.heap.size, 1, none⟩ = some (.slice a0 p.vars.length cap0) ∧ w'.cell? ⟨g, o + k * 3, none⟩ = some (.string x.name) ∧ w'.cell? ⟨g, o + k * 3 + 1, none⟩ = some (.slice ga x.guard.length gcap) ∧ w'.cell? ⟨g, o + k * 3 + 2, none⟩ = some (.slice sa x.sets.length scap)) (first | exact SB | exact SA)
              (first | (go_at_call 87; refine (rformed_any _ _ x p.vars.length _ (by exact HT.out.below hbw.drew) (by exact HS.out.below hbw.drew fun _ _ => SetOk.below hbw.drew) HXI.out HXL.out (by omega)).mono ?_; rintro e w2 ⟨rfl, hb2⟩; have SB : w2.cell? ⟨w.heap.size, 2, none⟩ = some (.slice (some ⟨g, o, none⟩) p.rules.length cap1) ∧ w2.cell? ⟨w.heap.size, 1, none⟩ = some (.slice a0 p.vars.length cap0) ∧ w2.cell? ⟨g, o + k * 3, none⟩ = some (.string x.name) ∧ w2.cell? ⟨g, o + k * 3 + 1, none⟩ = some (.slice ga x.guard.length gcap) ∧ w2.cell? ⟨g, o + k * 3 + 2, none⟩ = some (.slice sa x.sets.length scap) := ⟨(hb2.cell (p := ⟨_, _, none⟩) hlt0).trans hbox2, (hb2.cell (p := ⟨_, _, none⟩) hlt0).trans hbox, (hb2.cell (p := ⟨_, _, none⟩) hg2).trans c0, (hb2.cell (p := ⟨_, _, none⟩) hg2).trans c1, (hb2.cell (p := ⟨_, _, none⟩) hg2).trans c2⟩))
            go_wp2_with fail
            exact ⟨⟨k + 1, by omega, by go_num, HST, hbel.out.drew.trans (hb2.mono (by simpa using hbs))⟩, by simp [intOf]; omega⟩
          · have H := Lib.hid (check_form HLIM.out qn HNUM.out (yff k hlt (by rw [HGX.out]; exact q1)))
            go_wp2_with fail
            go_region_held3 (fun w' => w'.cell? ⟨w.heap.size, 2, none⟩ = some (.slice (some ⟨g, o, none⟩) p.rules.length cap1) ∧ w'.cell? ⟨w.heap.size, 1, none⟩ = some (.slice a0 p.vars.length cap0) ∧ w'.cell? ⟨g, o + k * 3, none⟩ = some (.string x.name) ∧ w'.cell? ⟨g, o + k * 3 + 1, none⟩ = some (.slice ga x.guard.length gcap) ∧ w'.cell? ⟨g, o + k * 3 + 2, none⟩ = some (.slice sa x.sets.length scap)) (first | exact SB | exact SA)
              (first | (go_at_call 87; refine (rformed_any _ _ x p.vars.length _ (by exact HT.out.below hbw.drew) (by exact HS.out.below hbw.drew fun _ _ => SetOk.below hbw.drew) HXI.out HXL.out (by omega)).mono ?_; rintro e w2 ⟨rfl, hb2⟩; have SB : w2.cell? ⟨w.heap.size, 2, none⟩ = some (.slice (some ⟨g, o, none⟩) p.rules.length cap1) ∧ w2.cell? ⟨w.heap.size, 1, none⟩ = some (.slice a0 p.vars.length cap0) ∧ w2.cell? ⟨g, o + k * 3, none⟩ = some (.string x.name) ∧ w2.cell? ⟨g, o + k * 3 + 1, none⟩ = some (.slice ga x.guard.length gcap) ∧ w2.cell? ⟨g, o + k * 3 + 2, none⟩ = some (.slice sa x.sets.length scap) := ⟨(hb2.cell (p := ⟨_, _, none⟩) hlt0).trans hbox2, (hb2.cell (p := ⟨_, _, none⟩) hlt0).trans hbox, (hb2.cell (p := ⟨_, _, none⟩) hg2).trans c0, (hb2.cell (p := ⟨_, _, none⟩) hg2).trans c1, (hb2.cell (p := ⟨_, _, none⟩) hg2).trans c2⟩))
            go_wp2_with fail
            go_ret
            exact ⟨ybh H.out.symm, ydn hbw.drew hb2⟩
        · obtain rfl : k = p.rules.length := by omega
          have hform : p.rules.all (ybv · p.vars.length) = true := all_end hall.out
          have HFORM := Lib.hid hform
          clear hform
          obtain ⟨wo2, rfl⟩ : ∃ wo2 : World, wo2 = wr := ⟨_, rfl⟩
          have hbox0 := ycm hbel.out 0
          simp at hbox0
          have HKL := Lib.hid (show (ybq p).length = p.vars.length by simp [ybq])
          go_wp2_with fail
          go_loopw [5] (fun i wr => ∃ k : Nat, k ≤ p.rules.length ∧ i = .int .i64 k ∧ Hid ((p.rules.take k).all (yep · (ybq p)) = true) ∧ Hid (Below (w.heap.size + 1) (w.alloc (.cells #[.string p.name, .slice a0 p.vars.length cap0, .slice a1 p.rules.length cap1] 25)) wr)) (fun i _ => p.rules.length - (intOf i).toNat)
          case atStart => exact ⟨0, by omega, rfl, rfl, hbel⟩
          case round =>
            clear hbel hbw hbs hbox hbox2 hall hbox0
            obtain ⟨k, hk, rfl, hall, hbel⟩ := hrel
            have hbw := ybd hbel.out
            have hbs := ycd hbel.out
            have hbox0 := ycm hbel.out 0
            have hbox := ycm hbel.out 1
            have hbox2 := ycm hbel.out 2
            simp at hbox hbox2 hbox0
            by_cases hlt : k < p.rules.length
            · obtain ⟨g, o, rfl, hg, hc⟩ := HRC.out (by omega)
              obtain ⟨x, hx⟩ : ∃ x, p.rules[k]? = some x := ⟨_, List.getElem?_eq_getElem hlt⟩
              obtain ⟨gv, sv, ht, hs, c0, c1, c2⟩ := hc k x hx
              have HT := Lib.hid ht
              have HS := Lib.hid hs
              obtain ⟨ga, gcap, rfl, _, _, _⟩ := ht.open
              obtain ⟨sa, scap, rfl, _, _, _⟩ := yem hs
              rw [← hbw.cell (p := ⟨g, _, none⟩) hg] at c0 c1 c2
              have HGX : Hid (p.rules[k] = x) := (List.getElem?_eq_some_iff.1 hx).2
              have HXI := Lib.hid (HIN.out.2.2 x (List.mem_of_getElem? hx))
              have HXL := Lib.hid (HLR.out x (List.mem_of_getElem? hx))
              have HXM := Lib.hid (List.mem_of_getElem? hx)
              clear hc hx ht hs
              have HFX := Lib.hid (List.all_eq_true.1 HFORM.out x HXM.out)
              have hlt0 : w.heap.size < wr.heap.size := by omega
              have hg2 : g < wr.heap.size := by omega
              have ik0 : (0 : Int) ≤ (k : Int) := by omega
              have ik1 : (k : Int) < (p.rules.length : Int) := by omega
              have SA : wr.cell? ⟨w.heap.size, 2, none⟩ = some (.slice (some ⟨g, o, none⟩) p.rules.length cap1) ∧ wr.cell? ⟨w.heap.size, 1, none⟩ = some (.slice a0 p.vars.length cap0) ∧ wr.cell? ⟨w.heap.size, 0, none⟩ = some (.string p.name) ∧ wr.cell? ⟨g, o + k * 3, none⟩ = some (.string x.name) ∧ wr.cell? ⟨g, o + k * 3 + 1, none⟩ = some (.slice ga x.guard.length gcap) ∧ wr.cell? ⟨g, o + k * 3 + 2, none⟩ = some (.slice sa x.sets.length scap) := ⟨hbox2, hbox, hbox0, c0, c1, c2⟩
              rcases Bool.eq_false_or_eq_true (yep x (ybq p)) with q1 | q1
              · have HST := Lib.hid (yfg (f := fun r : RuleD => yep r (ybq p)) k hlt hall.out (by rw [HGX.out]; exact q1))
                go_wp2_with fail
                go_region_held3 (fun w' => w'.cell? ⟨w.heap.size, 2, none⟩ = some (.slice (some ⟨g, o, none⟩) p.rules.length cap1) ∧ w'.cell? ⟨w.heap.size, 1, none⟩ = some (.slice a0 p.vars.length cap0) ∧ w'.cell? ⟨w.heap.size, 0, none⟩ = some (.string p.name) ∧ w'.cell? ⟨g, o + k * 3, none⟩ = some (.string x.name) ∧ w'.cell? ⟨g, o + k * 3 + 1, none⟩ = some (.slice ga x.guard.length gcap) ∧ w'.cell? ⟨g, o + k * 3 + 2, none⟩ = some (.slice sa x.sets.length scap)) (first | exact SB | exact SC | exact SA)
                  (first | (go_at_call 88; refine (rtyped_any _ _ _ x (ybq p) _ (by exact HT.out.below (ydn hbw.drew hb3)) (by exact HS.out.below (ydn hbw.drew hb3) fun _ _ => SetOk.below (ydn hbw.drew hb3)) HKV.out HXL.out (by rw [HKL.out]; omega) (kinds_of_num HNUM.out) (by rw [HKL.out]; exact HFX.out)).mono ?_; rintro e w4 ⟨rfl, hb4⟩; have SB : w4.cell? ⟨w.heap.size, 2, none⟩ = some (.slice (some ⟨g, o, none⟩) p.rules.length cap1) ∧ w4.cell? ⟨w.heap.size, 1, none⟩ = some (.slice a0 p.vars.length cap0) ∧ w4.cell? ⟨w.heap.size, 0, none⟩ = some (.string p.name) ∧ w4.cell? ⟨g, o + k * 3, none⟩ = some (.string x.name) ∧ w4.cell? ⟨g, o + k * 3 + 1, none⟩ = some (.slice ga x.guard.length gcap) ∧ w4.cell? ⟨g, o + k * 3 + 2, none⟩ = some (.slice sa x.sets.length scap) := ⟨((ydn hb3 hb4).cell (p := ⟨_, _, none⟩) hlt0).trans hbox2, ((ydn hb3 hb4).cell (p := ⟨_, _, none⟩) hlt0).trans hbox, ((ydn hb3 hb4).cell (p := ⟨_, _, none⟩) hlt0).trans hbox0, ((ydn hb3 hb4).cell (p := ⟨_, _, none⟩) hg2).trans c0, ((ydn hb3 hb4).cell (p := ⟨_, _, none⟩) hg2).trans c1, ((ydn hb3 hb4).cell (p := ⟨_, _, none⟩) hg2).trans c2⟩) | (go_at_call 89; refine (rkinds_any _ p _ (by exact HP.out.below hbw.drew) (by omega)).mono ?_; rintro e w3 ⟨kv, rfl, hkv, hb3⟩; have HKV := Lib.hid hkv; clear hkv; have SC : w3.cell? ⟨w.heap.size, 2, none⟩ = some (.slice (some ⟨g, o, none⟩) p.rules.length cap1) ∧ w3.cell? ⟨w.heap.size, 1, none⟩ = some (.slice a0 p.vars.length cap0) ∧ w3.cell? ⟨w.heap.size, 0, none⟩ = some (.string p.name) ∧ w3.cell? ⟨g, o + k * 3, none⟩ = some (.string x.name) ∧ w3.cell? ⟨g, o + k * 3 + 1, none⟩ = some (.slice ga x.guard.length gcap) ∧ w3.cell? ⟨g, o + k * 3 + 2, none⟩ = some (.slice sa x.sets.length scap) := ⟨(hb3.cell (p := ⟨_, _, none⟩) hlt0).trans hbox2, (hb3.cell (p := ⟨_, _, none⟩) hlt0).trans hbox, (hb3.cell (p := ⟨_, _, none⟩) hlt0).trans hbox0, (hb3.cell (p := ⟨_, _, none⟩) hg2).trans c0, (hb3.cell (p := ⟨_, _, none⟩) hg2).trans c1, (hb3.cell (p := ⟨_, _, none⟩) hg2).trans c2⟩))
                go_wp2_with fail
                exact ⟨⟨k + 1, by omega, by go_num, HST, hbel.out.drew.trans ((ydn hb3 hb4).mono (by simpa using hbs))⟩, by simp [intOf]; omega⟩
              · have H := Lib.hid (check_type HLIM.out qn HNUM.out HFORM.out (yff k hlt (by rw [HGX.out]; exact q1)))
                go_wp2_with fail
                go_region_held3 (fun w' => w'.cell? ⟨w.heap.size, 2, none⟩ = some (.slice (some ⟨g, o, none⟩) p.rules.length cap1) ∧ w'.cell? ⟨w.heap.size, 1, none⟩ = some (.slice a0 p.vars.length cap0) ∧ w'.cell? ⟨w.heap.size, 0, none⟩ = some (.string p.name) ∧ w'.cell? ⟨g, o + k * 3, none⟩ = some (.string x.name) ∧ w'.cell? ⟨g, o + k * 3 + 1, none⟩ = some (.slice ga x.guard.length gcap) ∧ w'.cell? ⟨g, o + k * 3 + 2, none⟩ = some (.slice sa x.sets.length scap)) (first | exact SB | exact SC | exact SA)
                  (first | (go_at_call 88; refine (rtyped_any _ _ _ x (ybq p) _ (by exact HT.out.below (ydn hbw.drew hb3)) (by exact HS.out.below (ydn hbw.drew hb3) fun _ _ => SetOk.below (ydn hbw.drew hb3)) HKV.out HXL.out (by rw [HKL.out]; omega) (kinds_of_num HNUM.out) (by rw [HKL.out]; exact HFX.out)).mono ?_; rintro e w4 ⟨rfl, hb4⟩; have SB : w4.cell? ⟨w.heap.size, 2, none⟩ = some (.slice (some ⟨g, o, none⟩) p.rules.length cap1) ∧ w4.cell? ⟨w.heap.size, 1, none⟩ = some (.slice a0 p.vars.length cap0) ∧ w4.cell? ⟨w.heap.size, 0, none⟩ = some (.string p.name) ∧ w4.cell? ⟨g, o + k * 3, none⟩ = some (.string x.name) ∧ w4.cell? ⟨g, o + k * 3 + 1, none⟩ = some (.slice ga x.guard.length gcap) ∧ w4.cell? ⟨g, o + k * 3 + 2, none⟩ = some (.slice sa x.sets.length scap) := ⟨((ydn hb3 hb4).cell (p := ⟨_, _, none⟩) hlt0).trans hbox2, ((ydn hb3 hb4).cell (p := ⟨_, _, none⟩) hlt0).trans hbox, ((ydn hb3 hb4).cell (p := ⟨_, _, none⟩) hlt0).trans hbox0, ((ydn hb3 hb4).cell (p := ⟨_, _, none⟩) hg2).trans c0, ((ydn hb3 hb4).cell (p := ⟨_, _, none⟩) hg2).trans c1, ((ydn hb3 hb4).cell (p := ⟨_, _, none⟩) hg2).trans c2⟩) | (go_at_call 89; refine (rkinds_any _ p _ (by exact HP.out.below hbw.drew) (by omega)).mono ?_; rintro e w3 ⟨kv, rfl, hkv, hb3⟩; have HKV := Lib.hid hkv; clear hkv; have SC : w3.cell? ⟨w.heap.size, 2, none⟩ = some (.slice (some ⟨g, o, none⟩) p.rules.length cap1) ∧ w3.cell? ⟨w.heap.size, 1, none⟩ = some (.slice a0 p.vars.length cap0) ∧ w3.cell? ⟨w.heap.size, 0, none⟩ = some (.string p.name) ∧ w3.cell? ⟨g, o + k * 3, none⟩ = some (.string x.name) ∧ w3.cell? ⟨g, o + k * 3 + 1, none⟩ = some (.slice ga x.guard.length gcap) ∧ w3.cell? ⟨g, o + k * 3 + 2, none⟩ = some (.slice sa x.sets.length scap) := ⟨(hb3.cell (p := ⟨_, _, none⟩) hlt0).trans hbox2, (hb3.cell (p := ⟨_, _, none⟩) hlt0).trans hbox, (hb3.cell (p := ⟨_, _, none⟩) hlt0).trans hbox0, (hb3.cell (p := ⟨_, _, none⟩) hg2).trans c0, (hb3.cell (p := ⟨_, _, none⟩) hg2).trans c1, (hb3.cell (p := ⟨_, _, none⟩) hg2).trans c2⟩))
                go_wp2_with fail
                go_ret
                exact ⟨ybh H.out.symm, ydn hbw.drew (ydn hb3 hb4)⟩
            · obtain rfl : k = p.rules.length := by omega
              have H := Lib.hid (check_ok HLIM.out qn HNUM.out HFORM.out (all_end hall.out))
              go_wp2_with fail
              go_ret
              exact ⟨ybh H.out.symm, hbw⟩

theorem rvalidP_any (v : Value) (p : ProgD) (w : World) (hv : yfe w v p) (hin : ProgIn p) (hlight : LightP p) :
    Calls Tryz.prog 51 #[v] w fun e w' => e = .returned (.bool (yed p == 0)) ∧ Below w.heap.size w w' := by
  have HP := Lib.hid hv
  have HIN := Lib.hid hin
  have HL := Lib.hid hlight
  obtain ⟨vv, rv, rfl, hvv, hrv⟩ := hv
  obtain ⟨a0, cap0, rfl, i1, i2, i3⟩ := hvv.open
  obtain ⟨a1, cap1, rfl, j1, j2, j3⟩ := hrv.open
  clear i3 j3 hvv hrv hin hlight
  go_enter Tryz.func51, Tryz.ntmps51
  go_wp2_with fail
  refine (rcheck_any _ p _ (by exact box_ok HP.out) HIN.out HL.out).mono ?_
  rintro e w1 ⟨rfl, hb1⟩
  go_wp2_with fail
  go_ret
  exact ⟨rfl, ybd (by simpa using hb1)⟩

end Go.Proofs.YtmlkdoimkdbdpaaGreatDoor
set_option linter.unusedVariables false
namespace Go.Proofs.YtmlkdoimkdbdpaaGreatDoor

def ybx (l : List Int) : Int := l.foldl max 0
theorem greatestL_snoc (l : List Int) (k : Nat) (x : Int) (h : l[k]? = some x) : ybx (l.take (k + 1)) = if x > ybx (l.take k) then x else ybx (l.take k) := by
  unfold ybx
  rw [List.take_add_one, h]
  simp only [Option.toList_some, List.foldl_append, List.foldl_cons, List.foldl_nil]
  omega
theorem greatestL_bd {l : List Int} (h : ∀ x ∈ l, x ≤ 255) : 0 ≤ ybx l ∧ ybx l ≤ 255 := by
  unfold ybx
  have : ∀ (l : List Int) (a : Int), (∀ x ∈ l, x ≤ 255) → 0 ≤ a → a ≤ 255 → 0 ≤ l.foldl max a ∧ l.foldl max a ≤ 255 := by
    intro l
    induction l with
    | nil => intro a _ h1 h2; exact ⟨h1, h2⟩
    | cons y l ih =>
      intro a hl h1 h2
      have := hl y (by simp)
      exact ih (max a y) (fun x hx => hl x (by simp [hx])) (by omega) (by omega)
  exact this l 0 h (by omega) (by omega)

instance : Inhabited VarD := ⟨⟨ByteArray.empty, 0, 0, 0, 0, 0⟩⟩
theorem num_facts {x : VarD} (h : numB x = true) : (x.kind = 1 ∨ x.kind = 2 ∨ x.kind = 3) ∧ 0 ≤ x.lo ∧ x.lo ≤ 4096 ∧ -4096 ≤ x.hi ∧ x.hi ≤ 4096 ∧ 0 ≤ x.perNode ∧ x.perNode ≤ 255 ∧ 0 ≤ x.perID ∧ x.perID ≤ 255 := by
  unfold numB at h
  rw [Bool.and_eq_true] at h
  obtain ⟨h1, h2⟩ := h
  have hk : x.kind = 1 ∨ x.kind = 2 ∨ x.kind = 3 := by simp [kindB] at h1; omega
  refine ⟨hk, ?_⟩
  split at h2
  · simp at h2; omega
  · simp only [ycf, Bool.and_eq_true, decide_eq_true_eq] at h2
    obtain ⟨g1, g2, g3, g4⟩ := h2
    split at g4 <;> simp at g4 <;> omega
theorem yde {p : ProgD} (h : yed p = 0) : 1 ≤ p.vars.length ∧ p.vars.length ≤ 6 ∧ p.rules.length ≤ 12 ∧ ∀ x ∈ p.vars, numB x = true := by
  by_cases h1 : p.vars.length = 0 ∨ 6 < p.vars.length ∨ 12 < p.rules.length
  · rw [check_limit h1] at h; omega
  by_cases h2 : ycx p = true
  · by_cases h3 : p.vars.all numB = true
    · exact ⟨by omega, by omega, by omega, fun x hx => List.all_eq_true.1 h3 x hx⟩
    · rw [check_num h1 h2 (by simpa using h3)] at h; omega
  · rw [check_name h1 (by simpa using h2)] at h; omega

def ybe (x : VarD) (g : GraphD) (deg : Int) : Int × Int :=
  if x.kind = 2 then (0, 1) else if x.kind = 3 then (-1, deg - 1) else (x.lo, x.hi + x.perNode * g.ports.length + x.perID * ybx g.ids)
def there (p : ProgD) (g : GraphD) (v x : Int) : Bool := decide (0 ≤ v) && decide (v < g.ports.length) && (decide (0 ≤ x) && decide (x < p.vars.length))
def fitB (g : GraphD) (x : VarD) : Bool := !(x.kind == 1) || (decide ((ybe x g 0).1 ≤ (ybe x g 0).2) && decide ((ybe x g 0).2 - (ybe x g 0).1 + 1 ≤ 4096))
def ydl (p : ProgD) (g : GraphD) : Int := if yed p = 0 then if yeq g = true then if p.vars.all (fitB g) = true then 0 else 9 else 1 else 8
theorem fits_zero {p : ProgD} {g : GraphD} : ydl p g = 0 ↔ yed p = 0 ∧ yeq g = true ∧ ∀ x ∈ p.vars, fitB g x = true := by
  unfold ydl
  constructor
  · intro h
    split at h
    · split at h
      · split at h
        · rename_i h1 h2 h3; exact ⟨h1, h2, List.all_eq_true.1 h3⟩
        · omega
      · omega
    · omega
  · rintro ⟨h1, h2, h3⟩
    rw [if_pos h1, if_pos h2, if_pos (List.all_eq_true.2 h3)]
theorem valid_greatest {g : GraphD} (h : yeq g = true) : 0 ≤ ybx g.ids ∧ ybx g.ids ≤ 255 := greatestL_bd fun x hx => ((ycy h).2.2.2.1 x hx).2
theorem mul_bd {a b A B : Int} (h0 : 0 ≤ a) (h1 : a ≤ A) (h2 : 0 ≤ b) (h3 : b ≤ B) : 0 ≤ a * b ∧ a * b ≤ A * B := ⟨Int.mul_nonneg h0 h2, Int.mul_le_mul h1 h3 h2 (by omega)⟩
theorem terms_bd {x : VarD} {g : GraphD} (hx : numB x = true) (hg : yeq g = true) : 0 ≤ x.perNode * (g.ports.length : Int) ∧ x.perNode * (g.ports.length : Int) ≤ 255 * 24 ∧ 0 ≤ x.perID * ybx g.ids ∧ x.perID * ybx g.ids ≤ 255 * 255 := by
  have h1 := num_facts hx
  have h2 := ycy hg
  have h3 := valid_greatest hg
  have m1 := mul_bd (a := x.perNode) (b := (g.ports.length : Int)) (A := 255) (B := 24) (by omega) (by omega) (by omega) (by omega)
  have m2 := mul_bd (a := x.perID) (b := ybx g.ids) (A := 255) (B := 255) (by omega) (by omega) (by omega) (by omega)
  omega
theorem bounds_bd {x : VarD} {g : GraphD} {deg : Int} (hx : numB x = true) (hg : yeq g = true) (hd : 0 ≤ deg ∧ deg ≤ 30) : -1 ≤ (ybe x g deg).1 ∧ (ybe x g deg).1 ≤ 4096 ∧ -4096 ≤ (ybe x g deg).2 ∧ (ybe x g deg).2 ≤ 100000 := by
  have h1 := num_facts hx
  have h2 := terms_bd hx hg
  unfold ybe
  split
  · simp
  · split
    · simp only; omega
    · simp only; omega
theorem fit_bd {x : VarD} {g : GraphD} {deg : Int} (hf : fitB g x = true) (hx : numB x = true) (hd : 0 ≤ deg ∧ deg ≤ 30) : (ybe x g deg).1 ≤ (ybe x g deg).2 + (if x.kind = 3 then 1 else 0) ∧ (ybe x g deg).2 - (ybe x g deg).1 + 1 ≤ 4096 := by
  have h1 := num_facts hx
  unfold fitB at hf
  unfold ybe at hf ⊢
  rcases h1.1 with hk | hk | hk
  · simp [hk] at hf ⊢; omega
  · simp [hk]
  · simp [hk]; omega
end Go.Proofs.YtmlkdoimkdbdpaaGreatDoor
set_option linter.unusedVariables false
namespace Go.Proofs.YtmlkdoimkdbdpaaGreatDoor
open Go.RowKit

theorem rel_of_seq {α : Type} {f : α → List AV} {R : List Value → α → Prop} {w : World} {lv : Live} {size : Nat} {l : List α} {v : Value} (h : Seq R size w v l) (hf : ∀ x, (f x).length = size) (hfc : ∀ x, ∀ c ∈ f x, ydj c = true)
    (hR : ∀ x ∈ l, ∀ cs, R cs x → ybt (okW w) w (fun _ => none) (f x) cs) : Rel (okW w) w lv (.sl size (l.map f)) v := by
  obtain ⟨xs, ⟨a, cap, rfl, h1, h2, h3, h4, h5⟩, h6⟩ := h
  have hget : ∀ (i j : Nat) (row : List AV) (c : AV), (l.map f)[i]? = some row → row[j]? = some c → ∃ x, l[i]? = some x ∧ row = f x ∧ ∃ u, xs[i * size + j]? = some u ∧ Rel (okW w) w (fun _ => none) c u := by
    intro i j row c hrow hc
    rw [List.getElem?_map] at hrow
    cases hx : l[i]? with
    | none => simp [hx] at hrow
    | some x =>
      simp only [hx, Option.map_some, Option.some.injEq] at hrow
      subst hrow
      have hj : j < size := by have := (List.getElem?_eq_some_iff.1 hc).1; rw [hf] at this; exact this
      have hi := (List.getElem?_eq_some_iff.1 hx).1
      have hlt : i * size + j < xs.length := by
        have : i * size + size ≤ l.length * size := by rw [← Nat.succ_mul]; exact Nat.mul_le_mul_right _ hi
        omega
      refine ⟨x, rfl, rfl, xs[i * size + j], List.getElem?_eq_getElem hlt, ?_⟩
      refine (hR x (List.mem_of_getElem? hx) _ (h6 i x hx)).2 j c _ hc ?_
      rw [List.getElem?_take, if_pos hj, List.getElem?_drop, List.getElem?_eq_getElem hlt]
  have hgo : ∃ g o, l ≠ [] → a = some ⟨g, o, none⟩ ∧ g < w.heap.size ∧ ∀ (j : Nat) (u : Value), xs[j]? = some u → w.cell? ⟨g, o + j, none⟩ = some u := by
    rcases h5 with h5 | ⟨g, o, q1, q2, q3⟩
    · exact ⟨0, 0, fun h => absurd (List.eq_nil_of_length_eq_zero h5) h⟩
    · exact ⟨g, o, fun _ => ⟨q1, q2, q3⟩⟩
  obtain ⟨g, o, hgo⟩ := hgo
  have := Rel.sl (ok := okW w) (w := w) (lv := lv) (size := size) (rows := l.map f) a cap (fun i j => xs.getD (i * size + j) undef) g o (by simpa using h1) h2 h4 (fun row hr => by obtain ⟨x, _, rfl⟩ := List.mem_map.1 hr; exact hf x)
    (fun hne => by have := hgo (by intro h; simp [h] at hne); exact ⟨this.1, this.2.1⟩) (fun i j row c hrow hc => by
      obtain ⟨x, hx, rfl, u, hu, hr⟩ := hget i j row c hrow hc
      have hne : l ≠ [] := by intro h; simp [h] at hx
      refine ⟨?_, hfc x c (List.mem_of_getElem? hc)⟩
      rw [Nat.add_assoc, (hgo hne).2.2 _ u hu]
      simp [hu]) (fun i j row c hrow hc => by
      obtain ⟨x, hx, rfl, u, hu, hr⟩ := hget i j row c hrow hc
      have : xs.getD (i * size + j) undef = u := by simp [hu]
      rw [this]; exact hr)
  simpa using this
theorem flat_slice {α : Type} {g : α → List Value} {size : Nat} (hg : ∀ x, (g x).length = size) {l : List α} {i : Nat} {x : α} (hx : l[i]? = some x) : ((l.flatMap g).drop (i * size)).take size = g x := by
  apply List.ext_getElem?
  intro j
  rw [List.getElem?_take]
  by_cases hj : j < size
  · rw [if_pos hj, List.getElem?_drop]
    have hu : (g x)[j]? = some ((g x)[j]'(by rw [hg]; exact hj)) := List.getElem?_eq_getElem _
    rw [hu]
    exact flat_get g size hg l i j x _ hx hu
  · rw [if_neg hj, List.getElem?_eq_none (by rw [hg]; omega)]
theorem seq_of_row {α : Type} {g : α → List Value} {size : Nat} (hg : ∀ x, (g x).length = size) {w : World} {v : Value} {l : List α} (h : Row w v size l.length (l.flatMap g)) : Seq (fun cs x => cs = g x) size w v l :=
  ⟨_, h, fun i x hx => flat_slice hg hx⟩
theorem relAll_v {ok : Nat → Prop} {w : World} {lv : Live} (vs : List Value) : ybt ok w lv (vs.map AV.v) vs := by
  refine ⟨by simp, fun i x u hx hu => ?_⟩
  rw [List.getElem?_map, hu] at hx
  cases hx
  exact .v u
theorem yfc {ok : Nat → Prop} {w : World} {lv : Live} : ybt ok w lv [] [] := ⟨rfl, fun i x u hx hu => by simp at hx⟩
theorem ybr {ok : Nat → Prop} {w : World} {lv : Live} {a : AV} {v : Value} {xs : List AV} {vs : List Value} (h : Rel ok w lv a v) (t : ybt ok w lv xs vs) : ybt ok w lv (a :: xs) (v :: vs) := by
  refine ⟨by simp [t.1], fun i x u hx hu => ?_⟩
  cases i with
  | zero => simp at hx hu; subst hx hu; exact h
  | succ i => simp at hx hu; exact t.2 i x u hx hu
theorem rel_plain {w : World} {lv : Live} {α : Type} {g : α → List Value} {size : Nat} (hg : ∀ x, (g x).length = size) (h1 : ∀ x, ∀ u ∈ g x, u.oneCell' = true) {v : Value} {l : List α} (h : Row w v size l.length (l.flatMap g)) : Rel (okW w) w lv (.sl size (l.map fun x => (g x).map AV.v)) v :=
  rel_of_seq (seq_of_row hg h) (fun x => by simp [hg]) (fun x c hc => by
    obtain ⟨u, hu, rfl⟩ := List.mem_map.1 hc
    exact h1 x u hu) (fun x _ cs hc => by subst hc; exact relAll_v _)
theorem ints_rel {w : World} {lv : Live} {v : Value} {l : List Int} (h : Ints .i64 w v l) : Rel (okW w) w lv (ybk l) v := by
  refine rel_plain (g := fun t : Int => [.int .i64 t]) (fun _ => rfl) (fun x u hu => by simp at hu; subst hu; rfl) ?_
  unfold Ints at h
  rwa [flat_one l]
theorem okW_lt (w : World) : ∀ g, okW w g → g < w.heap.size := fun _ h => h
end Go.Proofs.YtmlkdoimkdbdpaaGreatDoor
set_option linter.unusedVariables false
set_option maxRecDepth 100000
namespace Go.Proofs.YtmlkdoimkdbdpaaGreatDoor
open Go.RowKit

def encTerm (t : Tm) : List AV := [i64 t.1, i64 t.2]
def encTerms (l : List Tm) : AV := .sl 2 (l.map encTerm)
def encSet (s : SetD) : List AV := [i64 s.var, encTerms s.val]
def ydw (r : RuleD) : List AV := [yfd r.name, encTerms r.guard, .sl 2 (r.sets.map encSet)]
def ydi (x : VarD) : List AV := [yfd x.name, i64 x.kind, i64 x.lo, i64 x.hi, i64 x.perNode, i64 x.perID]
def encP (p : ProgD) : AV := .agg [yfd p.name, .sl 6 (p.vars.map ydi), .sl 3 (p.rules.map ydw)]
structure FaultD where
  node : Int
  var : Int
  value : Int
theorem seq_of_rel {α : Type} {f : α → List AV} {R : List Value → α → Prop} {ok : Nat → Prop} {w : World} {lv : Live} {size : Nat} {l : List α} {v : Value} (h : Rel ok w lv (.sl size (l.map f)) v) (hok : ∀ g, ok g → g < w.heap.size)
    (hR : ∀ x ∈ l, ∀ cs, ybt ok w (fun _ => none) (f x) cs → R cs x) : Seq R size w v l := by
  cases h with
  | sl a cap u g o hn hc ha hsz hg hcell hrel =>
    simp only [List.length_map] at hn ⊢
    have hfl : ∀ x ∈ l, (f x).length = size := fun x hx => hsz _ (List.mem_map_of_mem hx)
    refine ⟨(List.range (l.length * size)).map fun j => u (j / size) (j % size), ⟨a, cap, rfl, hn, hc, by simp, ha, ?_⟩, fun i x hx => ?_⟩
    · rcases Nat.eq_zero_or_pos l.length with h0 | h0
      · exact .inl h0
      · obtain ⟨rfl, hok'⟩ := hg (by intro h; simp at h; simp [h] at h0)
        refine .inr ⟨g, o, rfl, hok g hok', fun j v hj => ?_⟩
        have hlt := (List.getElem?_eq_some_iff.1 hj).1
        simp only [List.length_map, List.length_range] at hlt
        rw [List.getElem?_map, List.getElem?_range hlt] at hj
        simp only [Option.map_some, Option.some.injEq] at hj
        have hs0 : 0 < size := by
          rcases Nat.eq_zero_or_pos size with h | h
          · simp [h] at hlt
          · exact h
        have hi : j / size < l.length := by rw [Nat.div_lt_iff_lt_mul hs0]; exact hlt
        have hx := List.getElem?_eq_getElem hi
        have hm : j % size < (f l[j / size]).length := by rw [hfl _ (List.getElem_mem hi)]; exact Nat.mod_lt _ hs0
        have := (hcell (j / size) (j % size) (f l[j / size]) _ (by simp [hx]) (List.getElem?_eq_getElem hm)).1
        rw [← hj, ← this]
        congr 2
        rw [Nat.add_assoc, Nat.mul_comm, Nat.div_add_mod]
    · refine hR x (List.mem_of_getElem? hx) _ ⟨?_, fun j c v hc hv => ?_⟩
      · have hi := (List.getElem?_eq_some_iff.1 hx).1
        rw [hfl x (List.mem_of_getElem? hx), List.length_take, List.length_drop, List.length_map, List.length_range]
        have : i * size + size ≤ l.length * size := by rw [← Nat.succ_mul]; exact Nat.mul_le_mul_right _ hi
        omega
      · have hj : j < size := by have := (List.getElem?_eq_some_iff.1 hc).1; rw [hfl x (List.mem_of_getElem? hx)] at this; exact this
        have hi := (List.getElem?_eq_some_iff.1 hx).1
        have hlt : i * size + j < l.length * size := by
          have : i * size + size ≤ l.length * size := by rw [← Nat.succ_mul]; exact Nat.mul_le_mul_right _ hi
          omega
        rw [List.getElem?_take, if_pos hj, List.getElem?_drop, List.getElem?_map, List.getElem?_range hlt] at hv
        simp only [Option.map_some, Option.some.injEq] at hv
        have e1 : (i * size + j) / size = i := by rw [Nat.add_comm, Nat.add_mul_div_right _ _ (by omega), Nat.div_eq_of_lt hj, Nat.zero_add]
        have e2 : (i * size + j) % size = j := by rw [Nat.add_comm, Nat.add_mul_mod_self_right, Nat.mod_eq_of_lt hj]
        rw [e1, e2] at hv
        subst hv
        exact hrel i j (f x) c (by simp [hx]) hc
theorem rowFlat {α : Type} {g : α → List Value} {size : Nat} {w : World} {v : Value} {l : List α} (hg : ∀ x, (g x).length = size) (h0 : 0 < size) (h : Seq (fun cs x => cs = g x) size w v l) : Row w v size l.length (l.flatMap g) := seq_flat g hg h0 h fun cs x h => h

theorem terms_of_rel {ok : Nat → Prop} {w : World} {lv : Live} {l : List Tm} {v : Value} (h : Rel ok w lv (encTerms l) v) (hok : ∀ g, ok g → g < w.heap.size) : ycu w v l :=
  rowFlat (g := fun t : Tm => [.int .i64 t.1, .int .i64 t.2]) (fun _ => rfl) (by omega) (seq_of_rel h hok fun x _ cs hr => by
    obtain ⟨u, v, rfl, h1, h2⟩ := relAll2 hr
    rw [ydy h1, ydy h2])
theorem prog_of_rel {ok : Nat → Prop} {w : World} {lv : Live} {p : ProgD} {v : Value} (h : Rel ok w lv (encP p) v) (hok : ∀ g, ok g → g < w.heap.size) : yfe w v p := by
  cases h with
  | agg vs hl hc hr =>
    obtain ⟨u, vv, rv, rfl, h1, h2, h3⟩ := relAll3 ⟨hl, hr⟩
    rw [ydy h1]
    refine ⟨vv, rv, rfl, ?_, ?_⟩
    · exact rowFlat (fun _ => rfl) (by omega) (seq_of_rel h2 hok fun x _ cs hr => by
        match cs, hr with
        | [c0, c1, c2, c3, c4, c5], hr =>
          have e0 := ydy (hr.2 0 _ _ rfl rfl)
          have e1 := ydy (hr.2 1 _ _ rfl rfl)
          have e2 := ydy (hr.2 2 _ _ rfl rfl)
          have e3 := ydy (hr.2 3 _ _ rfl rfl)
          have e4 := ydy (hr.2 4 _ _ rfl rfl)
          have e5 := ydy (hr.2 5 _ _ rfl rfl)
          rw [e0, e1, e2, e3, e4, e5]; rfl)
    · exact seq_of_rel h3 hok fun x _ cs hr => by
        obtain ⟨u, gv, sv, rfl, q1, q2, q3⟩ := relAll3 hr
        rw [ydy q1]
        exact ⟨gv, sv, rfl, terms_of_rel q2 hok, seq_of_rel q3 hok fun y _ cs hr => by
          obtain ⟨u, tv, rfl, r1, r2⟩ := relAll2 hr
          rw [ydy r1]
          exact ⟨tv, rfl, terms_of_rel r2 hok⟩⟩

end Go.Proofs.YtmlkdoimkdbdpaaGreatDoor
set_option linter.unusedVariables false
set_option maxRecDepth 100000
namespace Go.Proofs.YtmlkdoimkdbdpaaGreatDoor
open Go.RowKit Go.Maps

def lightR (r : RuleD) : Bool := decide (r.name.size ≤ 40) && (decide (r.sets.length ≤ 10) && (decide (r.guard.length ≤ 250) && r.sets.all (fun s => decide (s.val.length ≤ 250))))
def yew (p : ProgD) : Bool := decide (p.name.size ≤ 40) && (decide (p.vars.length ≤ 10) && (decide (p.rules.length ≤ 16) && (p.vars.all (fun x => decide (x.name.size ≤ 40)) && p.rules.all lightR)))
theorem light_of {p : ProgD} (h : yew p = true) : LightP p := by
  unfold yew at h
  simp only [Bool.and_eq_true, decide_eq_true_eq, List.all_eq_true] at h
  refine ⟨by omega, by omega, fun r hr => ?_⟩
  have := h.2.2.2.2 r hr
  unfold lightR at this
  simp only [Bool.and_eq_true, decide_eq_true_eq, List.all_eq_true] at this
  exact ⟨by omega, by omega, fun s hs => by have := this.2.2.2 s hs; omega⟩

set_option maxHeartbeats 16000000 in
theorem lightP_any (v : Value) (p : ProgD) (w : World) (hv : yfe w v p) (hin : ProgIn p) :
    Calls Tryz.prog 13 #[v] w fun e w' => e = .returned (.bool (yew p)) ∧ Below w.heap.size w w' := by
  have HIN := Lib.hid hin
  obtain ⟨vv, rv, rfl, hvv, hrv⟩ := hv
  obtain ⟨a0, cap0, rfl, i1, i2, i3⟩ := hvv.open
  obtain ⟨a1, cap1, rfl, j1, j2, j3⟩ := hrv.open
  have HVC := Lib.hid i3
  have HRC := Lib.hid j3
  have hns := hin.1
  clear i3 j3 hvv hrv hin
  by_cases h40 : 40 < p.name.size
  · have H := Lib.hid (show yew p = false by unfold yew; rw [show decide (p.name.size ≤ 40) = false by simp; omega]; rfl)
    have b1 : decide (40 < p.name.size) = true := by simp; omega
    go_enter Tryz.func13, Tryz.ntmps13
    go_wp2_with fail
    go_ret
    exact ⟨yal H.out.symm, (Below.refl _ _).alloc (Nat.le_refl _) _⟩
  have b1 : decide (40 < p.name.size) = false := by simp; omega
  have b1' : decide (40 < (p.name.size : Int)) = false := by simp; omega
  by_cases h10 : 10 < p.vars.length
  · have H := Lib.hid (show yew p = false by unfold yew; rw [show decide (p.vars.length ≤ 10) = false by simp; omega]; simp)
    have b2 : decide (10 < p.vars.length) = true := by simp; omega
    go_enter Tryz.func13, Tryz.ntmps13
    go_wp2_with fail
    go_ret
    exact ⟨yal H.out.symm, (Below.refl _ _).alloc (Nat.le_refl _) _⟩
  have b2 : decide (10 < p.vars.length) = false := by simp; omega
  have b2' : decide (10 < (p.vars.length : Int)) = false := by simp; omega
  by_cases h16 : 16 < p.rules.length
  · have H := Lib.hid (show yew p = false by unfold yew; rw [show decide (p.rules.length ≤ 16) = false by simp; omega]; simp)
    have b3 : decide (16 < p.rules.length) = true := by simp; omega
    go_enter Tryz.func13, Tryz.ntmps13
    go_wp2_with fail
    go_ret
    exact ⟨yal H.out.symm, (Below.refl _ _).alloc (Nat.le_refl _) _⟩
  have b3 : decide (16 < p.rules.length) = false := by simp; omega
  have b3' : decide (16 < (p.rules.length : Int)) = false := by simp; omega
  have H0 := Lib.hid (show yew p = (p.vars.all (fun x => decide (x.name.size ≤ 40)) && p.rules.all lightR) by
    unfold yew
    rw [show decide (p.name.size ≤ 40) = true by simp; omega, show decide (p.vars.length ≤ 10) = true by simp; omega, show decide (p.rules.length ≤ 16) = true by simp; omega]; rfl)
  go_enter Tryz.func13, Tryz.ntmps13
  go_wp2_with fail
  go_loopw [3] (fun i wr => ∃ k : Nat, k ≤ p.vars.length ∧ i = .int .i64 k ∧ Hid ((p.vars.take k).all (fun x => decide (x.name.size ≤ 40)) = true) ∧ Hid (Below (w.heap.size + 1) (w.alloc (.cells #[.string p.name, .slice a0 p.vars.length cap0, .slice a1 p.rules.length cap1] 25)) wr)) (fun i _ => p.vars.length - (intOf i).toNat)
  case atStart => exact ⟨0, by omega, rfl, rfl, Below.refl _ _⟩
  case round =>
    obtain ⟨k, hk, rfl, hall, hbel⟩ := hrel
    have hbw := ybd hbel.out
    have hbs := ycd hbel.out
    have hbox := ycm hbel.out 1
    have hbox2 := ycm hbel.out 2
    simp at hbox hbox2
    by_cases hlt : k < p.vars.length
    · obtain ⟨g, o, rfl, hg, hc⟩ := HVC.out (by omega)
      obtain ⟨x, hx⟩ : ∃ x, p.vars[k]? = some x := ⟨_, List.getElem?_eq_getElem hlt⟩
      obtain ⟨c0, _, _, _, _, _⟩ := hc k x hx
      rw [← hbw.cell (p := ⟨g, _, none⟩) hg] at c0
      have HGX : Hid (p.vars[k] = x) := (List.getElem?_eq_some_iff.1 hx).2
      have hxs := (HIN.out.2.1 x (List.mem_of_getElem? hx)).1
      clear hc hx
      by_cases h4 : 40 < x.name.size
      · have H := Lib.hid (show yew p = false by rw [H0.out, yff k hlt (by rw [HGX.out]; simp; omega)]; rfl)
        have b4 : decide (40 < x.name.size) = true := by simp; omega
        go_wp2_with fail
        go_ret
        exact ⟨yal H.out.symm, hbw⟩
      · have HST := Lib.hid (yfg (f := fun x : VarD => decide (x.name.size ≤ 40)) k hlt hall.out (by rw [HGX.out]; simp; omega))
        have b4 : decide (40 < x.name.size) = false := by simp; omega
        go_wp2_with fail
        exact ⟨⟨k + 1, by omega, by go_num, HST, hbel⟩, by simp [intOf]; omega⟩
    · obtain rfl : k = p.vars.length := by omega
      have H1 := Lib.hid (show yew p = p.rules.all lightR by rw [H0.out, all_end hall.out]; rfl)
      obtain ⟨wo, rfl⟩ : ∃ wo : World, wo = wr := ⟨_, rfl⟩
      go_wp2_with fail
      go_loopw [4, 5, 6] (fun i _ _ wr => ∃ k : Nat, k ≤ p.rules.length ∧ i = .int .i64 k ∧ Hid ((p.rules.take k).all lightR = true) ∧ Hid (Below (w.heap.size + 1) (w.alloc (.cells #[.string p.name, .slice a0 p.vars.length cap0, .slice a1 p.rules.length cap1] 25)) wr)) (fun i _ _ _ => p.rules.length - (intOf i).toNat)
      case atStart => exact ⟨0, by omega, rfl, rfl, hbel⟩
      case round =>
        clear hbel hbw hbs hbox hbox2 hall
        obtain ⟨k, hk, rfl, hall, hbel⟩ := hrel
        have hbw := ybd hbel.out
        have hbs := ycd hbel.out
        have hbox2 := ycm hbel.out 2
        simp at hbox2
        by_cases hlt : k < p.rules.length
        · obtain ⟨g, o, rfl, hg, hc⟩ := HRC.out (by omega)
          obtain ⟨x, hx⟩ : ∃ x, p.rules[k]? = some x := ⟨_, List.getElem?_eq_getElem hlt⟩
          obtain ⟨gv, sv, ht, hs, c0, c1, c2⟩ := hc k x hx
          have HT := Lib.hid ht
          obtain ⟨ga, gcap, rfl, _, _, _⟩ := ht.open
          obtain ⟨sa, scap, rfl, sl1, sl2, s3⟩ := yem hs
          have HSC := Lib.hid s3
          rw [← hbw.cell (p := ⟨g, _, none⟩) hg] at c0 c1 c2
          have HGX : Hid (p.rules[k] = x) := (List.getElem?_eq_some_iff.1 hx).2
          have hxs := (HIN.out.2.2 x (List.mem_of_getElem? hx)).1
          clear hc hx ht hs s3
          by_cases h4 : 40 < x.name.size
          · have H := Lib.hid (show yew p = false by rw [H1.out, yff k hlt (by rw [HGX.out, lightR, show decide (x.name.size ≤ 40) = false by simp; omega]; rfl)])
            have b4 : decide (40 < x.name.size) = true := by simp; omega
            go_wp2_with fail
            go_ret
            exact ⟨yal H.out.symm, hbw.alloc (by omega) _⟩
          have b4 : decide (40 < x.name.size) = false := by simp; omega
          have b4' : decide (40 < (x.name.size : Int)) = false := by simp; omega
          by_cases h5 : 10 < x.sets.length
          · have H := Lib.hid (show yew p = false by rw [H1.out, yff k hlt (by rw [HGX.out, lightR, show decide (x.sets.length ≤ 10) = false by simp; omega]; simp)])
            have b5 : decide (10 < x.sets.length) = true := by simp; omega
            go_wp2_with fail
            go_ret
            exact ⟨yal H.out.symm, hbw.alloc (by omega) _⟩
          have b5 : decide (10 < x.sets.length) = false := by simp; omega
          have b5' : decide (10 < (x.sets.length : Int)) = false := by simp; omega
          by_cases h6 : 250 < x.guard.length
          · have H := Lib.hid (show yew p = false by rw [H1.out, yff k hlt (by rw [HGX.out, lightR, show decide (x.guard.length ≤ 250) = false by simp; omega]; simp)])
            have b6 : decide (x.guard.length ≤ 250) = false := by simp; omega
            go_wp2_with (go_at_call 34; refine (light_any _ x.guard _ (by exact HT.out.below (hbw.alloc (by omega) _))).mono ?_; rintro e w1 ⟨rfl, rfl⟩)
            go_ret
            exact ⟨yal H.out.symm, hbw.alloc (by omega) _⟩
          have b6 : decide (x.guard.length ≤ 250) = true := by simp; omega
          have HR := Lib.hid (show lightR x = x.sets.all (fun s => decide (s.val.length ≤ 250)) by
            unfold lightR
            rw [show decide (x.name.size ≤ 40) = true by simp; omega, show decide (x.sets.length ≤ 10) = true by simp; omega, b6]; rfl)
          obtain ⟨wo2, rfl⟩ : ∃ wo2 : World, wo2 = wr := ⟨_, rfl⟩
          go_wp2_with (go_at_call 34; refine (light_any _ x.guard _ (by exact HT.out.below (hbw.alloc (by omega) _))).mono ?_; rintro e w1 ⟨rfl, rfl⟩)
          go_loop [6] (fun i => ∃ j : Nat, j ≤ x.sets.length ∧ i = .int .i64 j ∧ Hid ((x.sets.take j).all (fun s => decide (s.val.length ≤ 250)) = true)) (fun i => x.sets.length - (intOf i).toNat)
          case atStart => exact ⟨0, by omega, rfl, rfl⟩
          case round =>
            obtain ⟨j, hj, rfl, hall2⟩ := hrel
            by_cases hjl : j < x.sets.length
            · obtain ⟨g2, o2, rfl, hg2, hc2⟩ := HSC.out (by omega)
              obtain ⟨y, hy⟩ : ∃ y, x.sets[j]? = some y := ⟨_, List.getElem?_eq_getElem hjl⟩
              obtain ⟨tv, hty, d0, d1⟩ := hc2 j y hy
              have HTY := Lib.hid hty
              obtain ⟨ya, ycap, rfl, _, _, _⟩ := hty.open
              have hba := hbw.alloc (show w.heap.size ≤ wo2.heap.size by omega) (.cells #[.string x.name, .slice ga x.guard.length gcap, .slice (some ⟨g2, o2, none⟩) x.sets.length scap] 78)
              rw [← hba.cell (p := ⟨g2, _, none⟩) hg2] at d1
              have HGY : Hid (x.sets[j] = y) := (List.getElem?_eq_some_iff.1 hy).2
              clear hc2 hy hty d0
              by_cases h7 : 250 < y.val.length
              · have b7 : decide (y.val.length ≤ 250) = false := by simp; omega
                have H := Lib.hid (show yew p = false by rw [H1.out, yff k hlt (by rw [HGX.out, HR.out, yff j hjl (by rw [HGY.out]; exact b7)])])
                go_wp2_with (go_at_call 34; refine (light_any _ y.val _ (by exact HTY.out.below (hbw.alloc (by omega) _))).mono ?_; rintro e w1 ⟨rfl, rfl⟩)
                go_ret
                exact ⟨yal H.out.symm, hba⟩
              · have b7 : decide (y.val.length ≤ 250) = true := by simp; omega
                have HST := Lib.hid (yfg (f := fun s : SetD => decide (s.val.length ≤ 250)) j hjl hall2.out (by rw [HGY.out]; exact b7))
                go_wp2_with (go_at_call 34; refine (light_any _ y.val _ (by exact HTY.out.below (hbw.alloc (by omega) _))).mono ?_; rintro e w1 ⟨rfl, rfl⟩)
                exact ⟨⟨j + 1, by omega, by go_num, HST⟩, by simp [intOf]; omega⟩
            · obtain rfl : j = x.sets.length := by omega
              have HST := Lib.hid (yfg (f := lightR) k hlt hall.out (by rw [HGX.out, HR.out]; exact all_end hall2.out))
              go_wp2_with fail
              exact ⟨⟨k + 1, by omega, by go_num, HST, hbel.out.alloc hbs _⟩, by simp [intOf]; omega⟩
        · obtain rfl : k = p.rules.length := by omega
          have H := Lib.hid (show yew p = true by rw [H1.out, all_end hall.out])
          go_wp2_with fail
          go_ret
          exact ⟨yal H.out.symm, hbw⟩
end Go.Proofs.YtmlkdoimkdbdpaaGreatDoor
set_option linter.unusedVariables false
set_option maxRecDepth 100000
set_option maxHeartbeats 8000000
namespace Go.Proofs.YtmlkdoimkdbdpaaGreatDoor
open Go.RowKit

theorem tvalid_con (p : ProgD) (hin : ProgIn p) (hl : LightP p) : Con Tryz.prog 44 [encP p] (yfp (yed p == 0)) :=
  con_of_calls ⟨_, Tryz.func44, rfl, rfl⟩ fun w us ok hok hr => by
    obtain ⟨u, rfl, h1⟩ := relAll1 hr
    exact validP_any u p w (prog_of_rel h1 hok) hin hl
theorem rtvalid_con (p : ProgD) (hin : ProgIn p) (hl : LightP p) : Con Tryz.prog 51 [encP p] (yfp (yed p == 0)) :=
  con_of_calls ⟨_, Tryz.func51, rfl, rfl⟩ fun w us ok hok hr => by
    obtain ⟨u, rfl, h1⟩ := relAll1 hr
    exact rvalidP_any u p w (prog_of_rel h1 hok) hin hl
theorem lightP_con (p : ProgD) (hin : ProgIn p) : Con Tryz.prog 13 [encP p] (yfp (yew p)) :=
  con_of_calls ⟨_, Tryz.func13, rfl, rfl⟩ fun w us ok hok hr => by
    obtain ⟨u, rfl, h1⟩ := relAll1 hr
    exact lightP_any u p w (prog_of_rel h1 hok) hin

end Go.Proofs.YtmlkdoimkdbdpaaGreatDoor
