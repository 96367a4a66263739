/- The walk over the reference's named. -/
import Derived.Test.YtogennegbihceaaCheckWalk2
set_option linter.unusedVariables false
set_option maxRecDepth 100000
namespace Go.Proofs.Ytogennegbihceaa
open Go.RowKit Go.Maps

set_option maxHeartbeats 8000000 in
theorem rnamed_any (v : Value) (p : ProgD) (w : World) (hv : ProgOk w v p) (hin : ProgIn p) (h6 : p.vars.length ≤ 1000) (h12 : p.rules.length ≤ 1000) :
    Calls Try.prog 15 #[v] w fun e w' => e = .returned (.bool (namedB p)) ∧ Below w.heap.size w w' := by
  obtain ⟨vv, rv, rfl, hvv, hrv⟩ := hv
  obtain ⟨hn0, hnv, hnr⟩ := hin
  have HNV := Lib.hid hnv
  have HNR := Lib.hid hnr
  obtain ⟨a0, cap0, rfl, i1, i2, i3⟩ := hvv.open
  obtain ⟨a1, cap1, rfl, j1, j2, j3⟩ := hrv.open
  have HVC := Lib.hid i3
  have HRC := Lib.hid j3
  clear i3 j3 hvv hrv hnv hnr
  rcases Bool.eq_false_or_eq_true (nameB p.name) with q0 | q0
  rotate_left
  · have H := Lib.hid (show namedB p = false by unfold namedB; rw [q0]; rfl)
    go_enter Try.func15, Try.ntmps15
    go_wp2_with (go_at_call 28; refine (rname_any _ _ hn0).mono ?_; rintro e w1 ⟨rfl, rfl⟩)
    go_ret
    exact ⟨ret_bool H.out.symm, (Below.refl _ _).alloc (Nat.le_refl _) _⟩
  have H0 := Lib.hid (show namedB p = (namesB (p.vars.map (·.name)) && namesB (p.rules.map (·.name))) by unfold namedB; rw [q0]; rfl)
  go_enter Try.func15, Try.ntmps15
  go_wp2_with (go_at_call 28; refine (rname_any _ _ hn0).mono ?_; rintro e w1 ⟨rfl, rfl⟩)
  go_loopw [3, 4] (fun i _ wr => ∃ k : Nat, k ≤ p.vars.length ∧ i = .int .i64 k ∧ Hid (namesB ((p.vars.map (·.name)).take k) = true) ∧ Hid (Below (w.heap.size + 1) (w.alloc (.cells #[.string p.name, .slice a0 p.vars.length cap0, .slice a1 p.rules.length cap1] 25)) wr)) (fun i _ _ => p.vars.length - (intOf i).toNat)
  case atStart => exact ⟨0, by omega, rfl, rfl, Below.refl _ _⟩
  case round =>
    obtain ⟨k, hk, rfl, hset, hbel⟩ := hrel
    have hbw := box_below hbel.out
    have hbs := box_size hbel.out
    have hbox := box_at hbel.out 1
    simp at hbox
    by_cases hlt : k < p.vars.length
    · obtain ⟨x, hx⟩ : ∃ x, p.vars[k]? = some x := ⟨_, List.getElem?_eq_getElem hlt⟩
      have hxn := (HNV.out x (List.mem_of_getElem? hx)).1
      have hlm : k < (p.vars.map (·.name)).length := by simpa using hlt
      have hgx : (p.vars.map (·.name))[k] = x.name := by
        obtain ⟨_, h2⟩ := List.getElem?_eq_some_iff.1 hx
        simp [h2]
      have HX := Lib.hid hx
      have HGX := Lib.hid hgx
      clear hx hgx
      obtain ⟨wo, rfl⟩ : ∃ wo : World, wo = wr := ⟨_, rfl⟩
      go_wp2_with fail
      go_loopw [4] (fun i wr => ∃ j : Nat, j ≤ k ∧ i = .int .i64 j ∧ Hid (nkey x.name ∉ ((p.vars.map (·.name)).take j).map nkey) ∧ Hid (Below (w.heap.size + 1) (w.alloc (.cells #[.string p.name, .slice a0 p.vars.length cap0, .slice a1 p.rules.length cap1] 25)) wr)) (fun i _ => k - (intOf i).toNat)
      case atStart => exact ⟨0, by omega, rfl, (fun h => by simp at h), hbel⟩
      case round =>
        clear hbox hbel hbw hbs
        obtain ⟨j, hj, rfl, hnot, hbel⟩ := hrel
        have hbw := box_below hbel.out
        have hbs := box_size hbel.out
        have hbox := box_at hbel.out 1
        simp at hbox
        obtain ⟨g, o, rfl, hg, hc⟩ := HVC.out (by omega)
        have hx := HX.out
        obtain ⟨c0, _, _, _, _, _⟩ := hc k x hx
        by_cases hjk : j < k
        · obtain ⟨y, hy⟩ : ∃ y, p.vars[j]? = some y := ⟨_, List.getElem?_eq_getElem (by omega)⟩
          obtain ⟨d0, _, _, _, _, _⟩ := hc j y hy
          have hgy : (p.vars.map (·.name))[j]'(by simp; omega) = y.name := by
            obtain ⟨_, h2⟩ := List.getElem?_eq_some_iff.1 hy
            simp [h2]
          have HGY := Lib.hid hgy
          rw [← hbw.cell (p := ⟨g, _, none⟩) hg] at c0 d0
          clear hc hx hy hgy
          by_cases he : nkey y.name = nkey x.name
          · have hb : (y.name.toList == x.name.toList) = true := by rw [nkey_beq]; simpa using he
            have H := Lib.hid (show namedB p = false by rw [H0.out, names_twice j k hjk hlm (by rw [HGY.out, HGX.out]; exact he)]; rfl)
            clear he
            go_wp2_with fail
            go_quiet (fail)
            go_wp2_with fail
            go_ret
            exact ⟨ret_bool H.out.symm, below_drewN hbw _⟩
          · have hb : (y.name.toList == x.name.toList) = false := by rw [nkey_beq]; simpa using he
            have HN2 := Lib.hid (show nkey x.name ∉ ((p.vars.map (·.name)).take (j + 1)).map nkey by
              rw [List.take_succ_eq_append_getElem (show j < (p.vars.map (·.name)).length by simp; omega), List.map_append, List.mem_append, HGY.out]
              rintro (h | h)
              · exact hnot.out h
              · simp at h; exact he h.symm)
            clear he
            go_wp2_with fail
            go_quiet (fail)
            go_wp2_with fail
            exact ⟨⟨j + 1, by omega, by go_num, HN2, below_drewN hbel.out _⟩, by simp [intOf]; omega⟩
        · obtain rfl : j = k := by omega
          rw [← hbw.cell (p := ⟨g, _, none⟩) hg] at c0
          clear hc hx
          rcases Bool.eq_false_or_eq_true (nameB x.name) with q1 | q1
          · have HS := Lib.hid (names_step j hlm hset.out (by rw [HGX.out]; exact q1) (by rw [HGX.out]; exact hnot.out))
            go_wp2_with (go_at_call 28; refine (rname_any _ _ hxn).mono ?_; rintro e w1 ⟨rfl, rfl⟩)
            exact ⟨⟨j + 1, by omega, by go_num, HS, hbel⟩, by simp [intOf]; omega⟩
          · have H := Lib.hid (show namedB p = false by rw [H0.out, names_bad j hlm (by rw [HGX.out]; exact q1)]; rfl)
            go_wp2_with (go_at_call 28; refine (rname_any _ _ hxn).mono ?_; rintro e w1 ⟨rfl, rfl⟩)
            go_ret
            exact ⟨ret_bool H.out.symm, hbw⟩
    · obtain rfl : k = p.vars.length := by omega
      have hnv := hset.out
      rw [List.take_of_length_le (by simp)] at hnv
      have H1 := Lib.hid (show namedB p = namesB (p.rules.map (·.name)) by rw [H0.out, hnv]; rfl)
      clear hnv hset H0
      obtain ⟨wo, rfl⟩ : ∃ wo : World, wo = wr := ⟨_, rfl⟩
      go_wp2_with fail
      go_loopw [5, 6] (fun i _ wr => ∃ k : Nat, k ≤ p.rules.length ∧ i = .int .i64 k ∧ Hid (namesB ((p.rules.map (·.name)).take k) = true) ∧ Hid (Below (w.heap.size + 1) (w.alloc (.cells #[.string p.name, .slice a0 p.vars.length cap0, .slice a1 p.rules.length cap1] 25)) wr)) (fun i _ _ => p.rules.length - (intOf i).toNat)
      case atStart => exact ⟨0, by omega, rfl, rfl, hbel⟩
      case round =>
        clear hbel hbw hbs hbox
        obtain ⟨k, hk, rfl, hset, hbel⟩ := hrel
        have hbw := box_below hbel.out
        have hbs := box_size hbel.out
        have hbox := box_at hbel.out 2
        simp at hbox
        by_cases hlt : k < p.rules.length
        · obtain ⟨x, hx⟩ : ∃ x, p.rules[k]? = some x := ⟨_, List.getElem?_eq_getElem hlt⟩
          have hxn := (HNR.out x (List.mem_of_getElem? hx)).1
          have hlm : k < (p.rules.map (·.name)).length := by simpa using hlt
          have hgx : (p.rules.map (·.name))[k] = x.name := by
            obtain ⟨_, h2⟩ := List.getElem?_eq_some_iff.1 hx
            simp [h2]
          have HX := Lib.hid hx
          have HGX := Lib.hid hgx
          clear hx hgx
          obtain ⟨wo, rfl⟩ : ∃ wo : World, wo = wr := ⟨_, rfl⟩
          go_wp2_with fail
          go_loopw [6] (fun i wr => ∃ j : Nat, j ≤ k ∧ i = .int .i64 j ∧ Hid (nkey x.name ∉ ((p.rules.map (·.name)).take j).map nkey) ∧ Hid (Below (w.heap.size + 1) (w.alloc (.cells #[.string p.name, .slice a0 p.vars.length cap0, .slice a1 p.rules.length cap1] 25)) wr)) (fun i _ => k - (intOf i).toNat)
          case atStart => exact ⟨0, by omega, rfl, (fun h => by simp at h), hbel⟩
          case round =>
            clear hbox hbel hbw hbs
            obtain ⟨j, hj, rfl, hnot, hbel⟩ := hrel
            have hbw := box_below hbel.out
            have hbs := box_size hbel.out
            have hbox := box_at hbel.out 2
            simp at hbox
            obtain ⟨g, o, rfl, hg, hc⟩ := HRC.out (by omega)
            have hx := HX.out
            obtain ⟨_, _, _, _, c0, _, _⟩ := hc k x hx
            by_cases hjk : j < k
            · obtain ⟨y, hy⟩ : ∃ y, p.rules[j]? = some y := ⟨_, List.getElem?_eq_getElem (by omega)⟩
              obtain ⟨_, _, _, _, d0, _, _⟩ := hc j y hy
              have hgy : (p.rules.map (·.name))[j]'(by simp; omega) = y.name := by
                obtain ⟨_, h2⟩ := List.getElem?_eq_some_iff.1 hy
                simp [h2]
              have HGY := Lib.hid hgy
              rw [← hbw.cell (p := ⟨g, _, none⟩) hg] at c0 d0
              clear hc hx hy hgy
              by_cases he : nkey y.name = nkey x.name
              · have hb : (y.name.toList == x.name.toList) = true := by rw [nkey_beq]; simpa using he
                have H := Lib.hid (show namedB p = false by rw [H1.out, names_twice j k hjk hlm (by rw [HGY.out, HGX.out]; exact he)])
                clear he
                go_wp2_with fail
                go_quiet (fail)
                go_wp2_with fail
                go_ret
                exact ⟨ret_bool H.out.symm, below_drewN hbw _⟩
              · have hb : (y.name.toList == x.name.toList) = false := by rw [nkey_beq]; simpa using he
                have HN2 := Lib.hid (show nkey x.name ∉ ((p.rules.map (·.name)).take (j + 1)).map nkey by
                  rw [List.take_succ_eq_append_getElem (show j < (p.rules.map (·.name)).length by simp; omega), List.map_append, List.mem_append, HGY.out]
                  rintro (h | h)
                  · exact hnot.out h
                  · simp at h; exact he h.symm)
                clear he
                go_wp2_with fail
                go_quiet (fail)
                go_wp2_with fail
                exact ⟨⟨j + 1, by omega, by go_num, HN2, below_drewN hbel.out _⟩, by simp [intOf]; omega⟩
            · obtain rfl : j = k := by omega
              rw [← hbw.cell (p := ⟨g, _, none⟩) hg] at c0
              clear hc hx
              rcases Bool.eq_false_or_eq_true (nameB x.name) with q1 | q1
              · have HS := Lib.hid (names_step j hlm hset.out (by rw [HGX.out]; exact q1) (by rw [HGX.out]; exact hnot.out))
                go_wp2_with (go_at_call 28; refine (rname_any _ _ hxn).mono ?_; rintro e w1 ⟨rfl, rfl⟩)
                exact ⟨⟨j + 1, by omega, by go_num, HS, hbel⟩, by simp [intOf]; omega⟩
              · have H := Lib.hid (show namedB p = false by rw [H1.out, names_bad j hlm (by rw [HGX.out]; exact q1)])
                go_wp2_with (go_at_call 28; refine (rname_any _ _ hxn).mono ?_; rintro e w1 ⟨rfl, rfl⟩)
                go_ret
                exact ⟨ret_bool H.out.symm, hbw⟩
        · obtain rfl : k = p.rules.length := by omega
          have H := hset.out
          rw [List.take_of_length_le (by simp)] at H
          have H2 := Lib.hid (show namedB p = true by rw [H1.out, H])
          clear H
          go_wp2_with fail
          go_ret
          exact ⟨ret_bool H2.out.symm, hbw⟩
end Go.Proofs.Ytogennegbihceaa
