/- The walk over the reference's formed. -/
import Derived.Test.YtogennegbihceaaCheckWalk4
set_option linter.unusedVariables false
set_option maxRecDepth 100000
namespace Go.Proofs.Ytogennegbihceaa
open Go.RowKit Go.Maps

set_option maxHeartbeats 8000000 in
theorem rformed_any (gv sv : Value) (r : RuleD) (n : Nat) (w : World) (hg : Terms w gv r.guard) (hs : Seq (SetOk w) 2 w sv r.sets) (hin : RuleIn r) (hl : LightR r) (hn : n ≤ 1000) :
    Calls Try.prog 17 #[.agg #[.string r.name, gv, sv], .int .i64 n] w fun e w' => e = .returned (.bool (formedB r n)) ∧ Below w.heap.size w w' := by
  obtain ⟨hl1, hl2, hl3⟩ := hl
  obtain ⟨_, _, hi3⟩ := hin
  have HI := Lib.hid hi3
  have HL := Lib.hid hl3
  have HG := Lib.hid hg
  have HS := Lib.hid hs
  obtain ⟨ga, gcap, rfl, g1, g2, g3⟩ := hg.open
  obtain ⟨sa, scap, rfl, s1, s2, s3⟩ := sets_open hs
  have HC := Lib.hid s3
  clear hi3 hl3 g3 s3 hs hg
  have HW : Hid (formedB r n = (withinB r.sets.length 1 6 && (validB r.guard n && setsB r.sets n))) := by
    unfold Hid
    rw [formedB_eq, ← Bool.and_assoc]
    congr 1
    rw [Bool.eq_iff_iff]; simp [withinB]; omega
  rcases Bool.eq_false_or_eq_true (withinB r.sets.length 1 6) with qw | qw
  rotate_left
  · have H := Lib.hid (show formedB r n = false by rw [HW.out, qw]; rfl)
    go_enter Try.func17, Try.ntmps17
    go_wp2_with (go_at_call 14; refine (rin_any _ _ _ _).mono ?_; rintro e w2 ⟨rfl, rfl⟩)
    go_ret
    exact ⟨ret_bool H.out.symm, (Below.refl _ _).alloc (Nat.le_refl _) _⟩
  rcases Bool.eq_false_or_eq_true (validB r.guard n) with q0 | q0
  rotate_left
  · have H := Lib.hid (show formedB r n = false by rw [HW.out, q0, qw]; rfl)
    go_enter Try.func17, Try.ntmps17
    go_wp2_with (go_at_call 14; refine (rin_any _ _ _ _).mono ?_; rintro e w2 ⟨rfl, rfl⟩)
    refine (rvalid_any _ r.guard _ _ hl1 (by exact HG.out.below ((Below.refl _ _).alloc (Nat.le_refl _) _))).mono ?_
    rintro e w1 ⟨rfl, hb1⟩
    go_wp2_with fail
    go_ret
    exact ⟨ret_bool H.out.symm, box_below (by simpa using hb1)⟩
  have H0 := Lib.hid (show formedB r n = setsB r.sets n by rw [HW.out, q0, qw]; rfl)
  go_enter Try.func17, Try.ntmps17
  go_wp2_with (go_at_call 14; refine (rin_any _ _ _ _).mono ?_; rintro e w2 ⟨rfl, rfl⟩)
  refine (rvalid_any _ r.guard _ _ hl1 (by exact HG.out.below ((Below.refl _ _).alloc (Nat.le_refl _) _))).mono ?_
  rintro e w1 ⟨rfl, hb1'⟩
  have hb1 : Below (w.heap.size + 1) (w.alloc (.cells #[.string r.name, .slice ga r.guard.length gcap, .slice sa r.sets.length scap] 32)) w1 := by simpa using hb1'
  clear hb1'
  go_wp2_with fail
  go_loopw [5, 6] (fun i _ wr => ∃ k : Nat, k ≤ r.sets.length ∧ i = .int .i64 k ∧ Hid (setsB (r.sets.take k) n = true) ∧ Hid (Below (w.heap.size + 1) (w.alloc (.cells #[.string r.name, .slice ga r.guard.length gcap, .slice sa r.sets.length scap] 32)) wr)) (fun i _ _ => r.sets.length - (intOf i).toNat)
  case atStart => exact ⟨0, by omega, rfl, rfl, hb1⟩
  case round =>
    clear hb1
    obtain ⟨k, hk, rfl, hset, hbel⟩ := hrel
    have hbw := box_below hbel.out
    have hbs := box_size hbel.out
    have hbox := box_at hbel.out 2
    simp at hbox
    by_cases hlt : k < r.sets.length
    · obtain ⟨g, o, rfl, hg, hc⟩ := HC.out (by omega)
      obtain ⟨x, hx⟩ : ∃ x, r.sets[k]? = some x := ⟨_, List.getElem?_eq_getElem hlt⟩
      obtain ⟨tv, ht, c0, c1⟩ := hc k x hx
      have HT := Lib.hid ht
      have HC0 := Lib.hid c0
      have HCC := Lib.hid hc
      obtain ⟨ta, tcap, rfl, _, _, _⟩ := ht.open
      rw [← hbw.cell (p := ⟨g, _, none⟩) hg] at c0 c1
      have hgx : r.sets[k] = x := (List.getElem?_eq_some_iff.1 hx).2
      have hxi := HI.out x (List.mem_of_getElem? hx)
      have hxl := HL.out x (List.mem_of_getElem? hx)
      have HXI := Lib.hid hxi
      have HGX := Lib.hid hgx
      clear hc ht hx hgx hxi
      rcases Bool.eq_false_or_eq_true (withinB x.var 0 ((n : Int) - 1)) with q1 | q1
      rotate_left
      · have H := Lib.hid (show formedB r n = false by rw [H0.out, sets_bad k hlt (by rw [HGX.out, setB, q1]; rfl)])
        go_wp2_with (go_at_call 14; refine (rin_any _ _ _ _).mono ?_; rintro e w2 ⟨rfl, rfl⟩)
        go_ret
        exact ⟨ret_bool H.out.symm, hbw⟩
      rcases Bool.eq_false_or_eq_true (validB x.val n) with q2 | q2
      rotate_left
      · have H := Lib.hid (show formedB r n = false by rw [H0.out, sets_bad k hlt (by rw [HGX.out, setB, q2]; simp)])
        go_wp2_with (go_at_call 14; refine (rin_any _ _ _ _).mono ?_; rintro e w2 ⟨rfl, rfl⟩)
        refine (rvalid_any _ x.val _ _ hxl (by exact HT.out.below hbw)).mono ?_
        rintro e w2 ⟨rfl, hb2⟩
        go_wp2_with fail
        go_ret
        exact ⟨ret_bool H.out.symm, bthen hbw hb2⟩
      · go_wp2_with (go_at_call 14; refine (rin_any _ _ _ _).mono ?_; rintro e w2 ⟨rfl, rfl⟩)
        refine (rvalid_any _ x.val _ _ hxl (by exact HT.out.below hbw)).mono ?_
        rintro e w2 ⟨rfl, hb2⟩
        have hbel2 : Hid (Below (w.heap.size + 1) (w.alloc (.cells #[.string r.name, .slice ga r.guard.length gcap, .slice (some ⟨g, o, none⟩) r.sets.length scap] 32)) w2) := hbel.out.trans (hb2.mono hbs)
        clear hbel hb2 hbw hbs hbox c0 c1
        go_wp2_with fail
        go_loopw [6] (fun i wr => ∃ j : Nat, j ≤ k ∧ i = .int .i64 j ∧ Hid (x.var ∉ (r.sets.take j).map (·.var)) ∧ Hid (Below (w.heap.size + 1) (w.alloc (.cells #[.string r.name, .slice ga r.guard.length gcap, .slice (some ⟨g, o, none⟩) r.sets.length scap] 32)) wr)) (fun i _ => k - (intOf i).toNat)
        case atStart => exact ⟨0, by omega, rfl, (fun h => by simp at h), hbel2⟩
        case round =>
          clear hbel2
          obtain ⟨j, hj, rfl, hnot, hbel⟩ := hrel
          have hbw := box_below hbel.out
          have hbs := box_size hbel.out
          have hbox := box_at hbel.out 2
          simp at hbox
          by_cases hjk : j < k
          · obtain ⟨y, hy⟩ : ∃ y, r.sets[j]? = some y := ⟨_, List.getElem?_eq_getElem (by omega)⟩
            obtain ⟨_, _, d0, _⟩ := HCC.out j y hy
            have c0 := HC0.out
            rw [← hbw.cell (p := ⟨g, _, none⟩) hg] at c0 d0
            have HGY : Hid (r.sets[j] = y) := (List.getElem?_eq_some_iff.1 hy).2
            clear hy
            by_cases he : y.var = x.var
            · have hb : (y.var == x.var) = true := by simpa using he
              have H := Lib.hid (show formedB r n = false by rw [H0.out, sets_twice j k hjk hlt (by rw [HGY.out, HGX.out]; exact he)])
              clear he
              go_wp2_with fail
              go_quiet (fail)
              go_wp2_with fail
              go_ret
              exact ⟨ret_bool H.out.symm, below_drewN hbw _⟩
            · have hb : (y.var == x.var) = false := by simpa using he
              have HN2 := Lib.hid (show x.var ∉ (r.sets.take (j + 1)).map (·.var) by
                rw [List.take_succ_eq_append_getElem (show j < r.sets.length by omega), List.map_append, List.mem_append, HGY.out]
                rintro (h | h)
                · exact hnot.out h
                · simp at h; exact he h.symm)
              clear he
              go_wp2_with fail
              go_quiet (fail)
              go_wp2_with fail
              exact ⟨⟨j + 1, by omega, by go_num, HN2, below_drewN hbel.out _⟩, by simp [intOf]; omega⟩
          · obtain rfl : j = k := by omega
            have HST := Lib.hid (sets_step (n := (n : Int)) j hlt hset.out (by rw [HGX.out, setB, q1, q2]; rfl) (by rw [HGX.out]; exact hnot.out))
            go_wp2_with fail
            exact ⟨⟨j + 1, by omega, by go_num, HST, hbel⟩, by simp [intOf]; omega⟩
    · obtain rfl : k = r.sets.length := by omega
      have H := hset.out
      rw [List.take_of_length_le (by simp)] at H
      have H2 := Lib.hid (show formedB r n = true by rw [H0.out, H])
      clear H
      go_wp2_with fail
      go_ret
      exact ⟨ret_bool H2.out.symm, hbw⟩
end Go.Proofs.Ytogennegbihceaa
