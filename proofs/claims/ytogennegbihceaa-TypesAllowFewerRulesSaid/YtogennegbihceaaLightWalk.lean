/- The walk over LightProgram. -/
import Derived.Test.YtogennegbihceaaCheckWalk9
set_option linter.unusedVariables false
set_option maxRecDepth 100000
namespace Go.Proofs.Ytogennegbihceaa
open Go.RowKit Go.Maps

def lightR (r : RuleD) : Bool := decide (r.name.size ≤ 40) && (decide (r.sets.length ≤ 10) && (decide (r.guard.length ≤ 250) && r.sets.all (fun s => decide (s.val.length ≤ 250))))
def lightB (p : ProgD) : Bool := decide (p.name.size ≤ 40) && (decide (p.vars.length ≤ 10) && (decide (p.rules.length ≤ 16) && (p.vars.all (fun x => decide (x.name.size ≤ 40)) && p.rules.all lightR)))
theorem light_of {p : ProgD} (h : lightB p = true) : LightP p := by
  unfold lightB at h
  simp only [Bool.and_eq_true, decide_eq_true_eq, List.all_eq_true] at h
  refine ⟨by omega, by omega, fun r hr => ?_⟩
  have := h.2.2.2.2 r hr
  unfold lightR at this
  simp only [Bool.and_eq_true, decide_eq_true_eq, List.all_eq_true] at this
  exact ⟨by omega, by omega, fun s hs => by have := this.2.2.2 s hs; omega⟩

set_option maxHeartbeats 16000000 in
theorem lightP_any (v : Value) (p : ProgD) (w : World) (hv : ProgOk w v p) (hin : ProgIn p) :
    Calls Try.prog 4 #[v] w fun e w' => e = .returned (.bool (lightB p)) ∧ Below w.heap.size w w' := by
  have HIN := Lib.hid hin
  obtain ⟨vv, rv, rfl, hvv, hrv⟩ := hv
  obtain ⟨a0, cap0, rfl, i1, i2, i3⟩ := hvv.open
  obtain ⟨a1, cap1, rfl, j1, j2, j3⟩ := hrv.open
  have HVC := Lib.hid i3
  have HRC := Lib.hid j3
  have hns := hin.1
  clear i3 j3 hvv hrv hin
  by_cases h40 : 40 < p.name.size
  · have H := Lib.hid (show lightB p = false by unfold lightB; rw [show decide (p.name.size ≤ 40) = false by simp; omega]; rfl)
    have b1 : decide (40 < p.name.size) = true := by simp; omega
    go_enter Try.func4, Try.ntmps4
    go_wp2_with fail
    go_ret
    exact ⟨ret_bool H.out.symm, (Below.refl _ _).alloc (Nat.le_refl _) _⟩
  have b1 : decide (40 < p.name.size) = false := by simp; omega
  have b1' : decide (40 < (p.name.size : Int)) = false := by simp; omega
  by_cases h10 : 10 < p.vars.length
  · have H := Lib.hid (show lightB p = false by unfold lightB; rw [show decide (p.vars.length ≤ 10) = false by simp; omega]; simp)
    have b2 : decide (10 < p.vars.length) = true := by simp; omega
    go_enter Try.func4, Try.ntmps4
    go_wp2_with fail
    go_ret
    exact ⟨ret_bool H.out.symm, (Below.refl _ _).alloc (Nat.le_refl _) _⟩
  have b2 : decide (10 < p.vars.length) = false := by simp; omega
  have b2' : decide (10 < (p.vars.length : Int)) = false := by simp; omega
  by_cases h16 : 16 < p.rules.length
  · have H := Lib.hid (show lightB p = false by unfold lightB; rw [show decide (p.rules.length ≤ 16) = false by simp; omega]; simp)
    have b3 : decide (16 < p.rules.length) = true := by simp; omega
    go_enter Try.func4, Try.ntmps4
    go_wp2_with fail
    go_ret
    exact ⟨ret_bool H.out.symm, (Below.refl _ _).alloc (Nat.le_refl _) _⟩
  have b3 : decide (16 < p.rules.length) = false := by simp; omega
  have b3' : decide (16 < (p.rules.length : Int)) = false := by simp; omega
  have H0 := Lib.hid (show lightB p = (p.vars.all (fun x => decide (x.name.size ≤ 40)) && p.rules.all lightR) by
    unfold lightB
    rw [show decide (p.name.size ≤ 40) = true by simp; omega, show decide (p.vars.length ≤ 10) = true by simp; omega, show decide (p.rules.length ≤ 16) = true by simp; omega]; rfl)
  go_enter Try.func4, Try.ntmps4
  go_wp2_with fail
  go_loopw [3] (fun i wr => ∃ k : Nat, k ≤ p.vars.length ∧ i = .int .i64 k ∧ Hid ((p.vars.take k).all (fun x => decide (x.name.size ≤ 40)) = true) ∧ Hid (Below (w.heap.size + 1) (w.alloc (.cells #[.string p.name, .slice a0 p.vars.length cap0, .slice a1 p.rules.length cap1] 25)) wr)) (fun i _ => p.vars.length - (intOf i).toNat)
  case atStart => exact ⟨0, by omega, rfl, rfl, Below.refl _ _⟩
  case round =>
    obtain ⟨k, hk, rfl, hall, hbel⟩ := hrel
    have hbw := box_below hbel.out
    have hbs := box_size hbel.out
    have hbox := box_at hbel.out 1
    have hbox2 := box_at hbel.out 2
    simp at hbox hbox2
    by_cases hlt : k < p.vars.length
    · obtain ⟨g, o, rfl, hg, hc⟩ := HVC.out (by omega)
      obtain ⟨x, hx⟩ : ∃ x, p.vars[k]? = some x := ⟨_, List.getElem?_eq_getElem hlt⟩
      obtain ⟨c0, _, _, _, _, _⟩ := hc k x hx
      rw [← hbw.cell (p := ⟨g, _, none⟩) hg] at c0
      have HGX : Hid (p.vars[k] = x) := (List.getElem?_eq_some_iff.1 hx).2
      have hxs := (HIN.out.2.1 x (List.mem_of_getElem? hx)).1
      clear hc hx
      by_cases h4 : 40 < x.name.size
      · have H := Lib.hid (show lightB p = false by rw [H0.out, all_bad k hlt (by rw [HGX.out]; simp; omega)]; rfl)
        have b4 : decide (40 < x.name.size) = true := by simp; omega
        go_wp2_with fail
        go_ret
        exact ⟨ret_bool H.out.symm, hbw⟩
      · have HST := Lib.hid (all_step (f := fun x : VarD => decide (x.name.size ≤ 40)) k hlt hall.out (by rw [HGX.out]; simp; omega))
        have b4 : decide (40 < x.name.size) = false := by simp; omega
        go_wp2_with fail
        exact ⟨⟨k + 1, by omega, by go_num, HST, hbel⟩, by simp [intOf]; omega⟩
    · obtain rfl : k = p.vars.length := by omega
      have H1 := Lib.hid (show lightB p = p.rules.all lightR by rw [H0.out, all_end hall.out]; rfl)
      obtain ⟨wo, rfl⟩ : ∃ wo : World, wo = wr := ⟨_, rfl⟩
      go_wp2_with fail
      go_loopw [4, 5, 6] (fun i _ _ wr => ∃ k : Nat, k ≤ p.rules.length ∧ i = .int .i64 k ∧ Hid ((p.rules.take k).all lightR = true) ∧ Hid (Below (w.heap.size + 1) (w.alloc (.cells #[.string p.name, .slice a0 p.vars.length cap0, .slice a1 p.rules.length cap1] 25)) wr)) (fun i _ _ _ => p.rules.length - (intOf i).toNat)
      case atStart => exact ⟨0, by omega, rfl, rfl, hbel⟩
      case round =>
        clear hbel hbw hbs hbox hbox2 hall
        obtain ⟨k, hk, rfl, hall, hbel⟩ := hrel
        have hbw := box_below hbel.out
        have hbs := box_size hbel.out
        have hbox2 := box_at hbel.out 2
        simp at hbox2
        by_cases hlt : k < p.rules.length
        · obtain ⟨g, o, rfl, hg, hc⟩ := HRC.out (by omega)
          obtain ⟨x, hx⟩ : ∃ x, p.rules[k]? = some x := ⟨_, List.getElem?_eq_getElem hlt⟩
          obtain ⟨gv, sv, ht, hs, c0, c1, c2⟩ := hc k x hx
          have HT := Lib.hid ht
          obtain ⟨ga, gcap, rfl, _, _, _⟩ := ht.open
          obtain ⟨sa, scap, rfl, sl1, sl2, s3⟩ := sets_open hs
          have HSC := Lib.hid s3
          rw [← hbw.cell (p := ⟨g, _, none⟩) hg] at c0 c1 c2
          have HGX : Hid (p.rules[k] = x) := (List.getElem?_eq_some_iff.1 hx).2
          have hxs := (HIN.out.2.2 x (List.mem_of_getElem? hx)).1
          clear hc hx ht hs s3
          by_cases h4 : 40 < x.name.size
          · have H := Lib.hid (show lightB p = false by rw [H1.out, all_bad k hlt (by rw [HGX.out, lightR, show decide (x.name.size ≤ 40) = false by simp; omega]; rfl)])
            have b4 : decide (40 < x.name.size) = true := by simp; omega
            go_wp2_with fail
            go_ret
            exact ⟨ret_bool H.out.symm, hbw.alloc (by omega) _⟩
          have b4 : decide (40 < x.name.size) = false := by simp; omega
          have b4' : decide (40 < (x.name.size : Int)) = false := by simp; omega
          by_cases h5 : 10 < x.sets.length
          · have H := Lib.hid (show lightB p = false by rw [H1.out, all_bad k hlt (by rw [HGX.out, lightR, show decide (x.sets.length ≤ 10) = false by simp; omega]; simp)])
            have b5 : decide (10 < x.sets.length) = true := by simp; omega
            go_wp2_with fail
            go_ret
            exact ⟨ret_bool H.out.symm, hbw.alloc (by omega) _⟩
          have b5 : decide (10 < x.sets.length) = false := by simp; omega
          have b5' : decide (10 < (x.sets.length : Int)) = false := by simp; omega
          by_cases h6 : 250 < x.guard.length
          · have H := Lib.hid (show lightB p = false by rw [H1.out, all_bad k hlt (by rw [HGX.out, lightR, show decide (x.guard.length ≤ 250) = false by simp; omega]; simp)])
            have b6 : decide (x.guard.length ≤ 250) = false := by simp; omega
            go_wp2_with (go_at_call 9; refine (light_any _ x.guard _ (by exact HT.out.below (hbw.alloc (by omega) _))).mono ?_; rintro e w1 ⟨rfl, rfl⟩)
            go_ret
            exact ⟨ret_bool H.out.symm, hbw.alloc (by omega) _⟩
          have b6 : decide (x.guard.length ≤ 250) = true := by simp; omega
          have HR := Lib.hid (show lightR x = x.sets.all (fun s => decide (s.val.length ≤ 250)) by
            unfold lightR
            rw [show decide (x.name.size ≤ 40) = true by simp; omega, show decide (x.sets.length ≤ 10) = true by simp; omega, b6]; rfl)
          obtain ⟨wo2, rfl⟩ : ∃ wo2 : World, wo2 = wr := ⟨_, rfl⟩
          go_wp2_with (go_at_call 9; refine (light_any _ x.guard _ (by exact HT.out.below (hbw.alloc (by omega) _))).mono ?_; rintro e w1 ⟨rfl, rfl⟩)
          go_loop [6] (fun i => ∃ j : Nat, j ≤ x.sets.length ∧ i = .int .i64 j ∧ Hid ((x.sets.take j).all (fun s => decide (s.val.length ≤ 250)) = true)) (fun i => x.sets.length - (intOf i).toNat)
          case atStart => exact ⟨0, by omega, rfl, rfl⟩
          case round =>
            obtain ⟨j, hj, rfl, hall2⟩ := hrel
            by_cases hjl : j < x.sets.length
            · obtain ⟨g2, o2, rfl, hg2, hc2⟩ := HSC.out (by omega)
              obtain ⟨y, hy⟩ : ∃ y, x.sets[j]? = some y := ⟨_, List.getElem?_eq_getElem hjl⟩
              obtain ⟨tv, hty, d0, d1⟩ := hc2 j y hy
              have HTY := Lib.hid hty
              obtain ⟨ya, ycap, rfl, _, _, _⟩ := hty.open
              have hba := hbw.alloc (show w.heap.size ≤ wo2.heap.size by omega) (.cells #[.string x.name, .slice ga x.guard.length gcap, .slice (some ⟨g2, o2, none⟩) x.sets.length scap] 32)
              rw [← hba.cell (p := ⟨g2, _, none⟩) hg2] at d1
              have HGY : Hid (x.sets[j] = y) := (List.getElem?_eq_some_iff.1 hy).2
              clear hc2 hy hty d0
              by_cases h7 : 250 < y.val.length
              · have b7 : decide (y.val.length ≤ 250) = false := by simp; omega
                have H := Lib.hid (show lightB p = false by rw [H1.out, all_bad k hlt (by rw [HGX.out, HR.out, all_bad j hjl (by rw [HGY.out]; exact b7)])])
                go_wp2_with (go_at_call 9; refine (light_any _ y.val _ (by exact HTY.out.below (hbw.alloc (by omega) _))).mono ?_; rintro e w1 ⟨rfl, rfl⟩)
                go_ret
                exact ⟨ret_bool H.out.symm, hba⟩
              · have b7 : decide (y.val.length ≤ 250) = true := by simp; omega
                have HST := Lib.hid (all_step (f := fun s : SetD => decide (s.val.length ≤ 250)) j hjl hall2.out (by rw [HGY.out]; exact b7))
                go_wp2_with (go_at_call 9; refine (light_any _ y.val _ (by exact HTY.out.below (hbw.alloc (by omega) _))).mono ?_; rintro e w1 ⟨rfl, rfl⟩)
                exact ⟨⟨j + 1, by omega, by go_num, HST⟩, by simp [intOf]; omega⟩
            · obtain rfl : j = x.sets.length := by omega
              have HST := Lib.hid (all_step (f := lightR) k hlt hall.out (by rw [HGX.out, HR.out]; exact all_end hall2.out))
              go_wp2_with fail
              exact ⟨⟨k + 1, by omega, by go_num, HST, hbel.out.alloc hbs _⟩, by simp [intOf]; omega⟩
        · obtain rfl : k = p.rules.length := by omega
          have H := Lib.hid (show lightB p = true by rw [H1.out, all_end hall.out])
          go_wp2_with fail
          go_ret
          exact ⟨ret_bool H.out.symm, hbw⟩
end Go.Proofs.Ytogennegbihceaa
