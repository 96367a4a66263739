/- The walk over the reference's typed. -/
import Derived.Test.YtogennegbihceaaCheckWalk7
set_option linter.unusedVariables false
set_option maxRecDepth 100000
namespace Go.Proofs.Ytogennegbihceaa
open Go.RowKit Go.Maps

theorem ofF_ty {l : List Tm} {kinds : List Int} {bound : Bool} (h6 : ¬ 6 < kinds.length) (hk : kindsB kinds = true) (hv : validB l kinds.length = true) : ∃ E, parse l = some E ∧ E.ok ∧ E.fl = l ∧ (∀ t ∈ l, argB kinds.length t = true) ∧ (ofF l kinds bound).1 = ty kinds bound E := by
  obtain ⟨E, hp, ho, hf, _, ha, _, _⟩ := valid_parse hv
  refine ⟨E, hp, ho, hf, List.all_eq_true.1 ha, ?_⟩
  rw [ofF_ok l kinds bound E h6 hk hv hp]
  split
  · rename_i h; rw [h]
  · rfl
theorem kind_is (ev kv : Value) (l : List Tm) (kinds : List Int) (bound : Bool) (a : Int) (w : World) (hl : l.length ≤ 1000) (h6 : ¬ 6 < kinds.length) (hkk : kindsB kinds = true) (hv : validB l kinds.length = true) (ha : (ofF l kinds bound).1 = a) (ht : Terms w ev l) (hk : Ints .i64 w kv kinds) :
    Calls Try.prog 31 #[ev, .int .i64 0, kv, .bool bound] w fun e w' => e = .returned (.int .i64 a) ∧ Below w.heap.size w w' := by
  obtain ⟨E, _, ho, hf, harg, he⟩ := ofF_ty (bound := bound) h6 hkk hv
  exact (kind0 ev kv l kinds bound E w hl ho harg hf ht hk).mono fun e w' ⟨h1, h2⟩ => ⟨by rw [h1, ← he, ha], h2⟩

set_option maxHeartbeats 8000000 in
theorem rtyped_any (gv sv kv : Value) (r : RuleD) (kinds : List Int) (w : World) (hg : Terms w gv r.guard) (hs : Seq (SetOk w) 2 w sv r.sets) (hk : Ints .i64 w kv kinds) (hl : LightR r) (h6 : ¬ 6 < kinds.length) (hkk : kindsB kinds = true) (hform : formedB r kinds.length = true) :
    Calls Try.prog 18 #[.agg #[.string r.name, gv, sv], kv] w fun e w' => e = .returned (.bool (typedB r kinds)) ∧ Below w.heap.size w w' := by
  obtain ⟨hl1, hl2, hl3⟩ := hl
  have hform' := hform
  rw [formedB_eq] at hform'
  simp only [Bool.and_eq_true, setsB, List.all_eq_true, setB, withinB, decide_eq_true_eq] at hform'
  obtain ⟨_, _, hvg, hvs, _⟩ := hform'
  have HVG := Lib.hid hvg
  have HVS := Lib.hid hvs
  have HKK := Lib.hid hkk
  have H6 := Lib.hid h6
  have HL := Lib.hid hl3
  have HG := Lib.hid hg
  have HK := Lib.hid hk
  obtain ⟨ga, gcap, rfl, g1, g2, g3⟩ := hg.open
  obtain ⟨sa, scap, rfl, s1, s2, s3⟩ := sets_open hs
  obtain ⟨ka, kcap, rfl, k1, k2, _, k4⟩ := hk.open
  have HC := Lib.hid s3
  have HKC := Lib.hid k4
  clear hl3 g3 s3 hs hg k4 hk hvg hvs hform hkk h6
  obtain ⟨ta, hta⟩ : ∃ a, (ofF r.guard kinds false).1 = a := ⟨_, rfl⟩
  have HT1 := Lib.hid hta
  clear hta
  have hbA : Below w.heap.size w (w.alloc (.cells #[.string r.name, .slice ga r.guard.length gcap, .slice sa r.sets.length scap] 32)) := (Below.refl _ _).alloc (Nat.le_refl _) _
  by_cases h2 : ta = 2
  rotate_left
  · have b2 : (ta != 2) = true := by simp [h2]
    have H := Lib.hid (show typedB r kinds = false by unfold typedB; rw [HT1.out, show (ta == 2) = false by simpa using h2]; rfl)
    go_enter Try.func18, Try.ntmps18
    go_wp2_with fail
    refine (kind_is _ _ r.guard kinds false ta _ (by omega) H6.out HKK.out HVG.out HT1.out (HG.out.below hbA) (HK.out.below hbA)).mono ?_
    rintro e w1 ⟨rfl, hb1⟩
    go_wp2_with fail
    go_ret
    exact ⟨ret_bool H.out.symm, box_below (by simpa using hb1)⟩
  have b2 : (ta != 2) = false := by simp [h2]
  have H0 := Lib.hid (typed_end (r := r) (kinds := kinds) (by rw [HT1.out, h2]; rfl))
  clear h2
  go_enter Try.func18, Try.ntmps18
  go_wp2_with fail
  refine (kind_is _ _ r.guard kinds false ta _ (by omega) H6.out HKK.out HVG.out HT1.out (HG.out.below hbA) (HK.out.below hbA)).mono ?_
  rintro e w1 ⟨rfl, hb1'⟩
  have hb1 : Below (w.heap.size + 1) (w.alloc (.cells #[.string r.name, .slice ga r.guard.length gcap, .slice sa r.sets.length scap] 32)) w1 := by simpa using hb1'
  clear hb1'
  go_wp2_with fail
  go_loopw [5] (fun i wr => ∃ k : Nat, k ≤ r.sets.length ∧ i = .int .i64 k ∧ Hid ((r.sets.take k).all (fun s => (ofF s.val kinds false).1 == kinds.getD s.var.toNat 0) = true) ∧ Hid (Below (w.heap.size + 1) (w.alloc (.cells #[.string r.name, .slice ga r.guard.length gcap, .slice sa r.sets.length scap] 32)) wr)) (fun i _ => r.sets.length - (intOf i).toNat)
  case atStart => exact ⟨0, by omega, rfl, rfl, hb1⟩
  case round =>
    clear hb1
    obtain ⟨k, hk, rfl, hall, hbel⟩ := hrel
    have hbw := box_below hbel.out
    have hbs := box_size hbel.out
    have hbox := box_at hbel.out 2
    simp at hbox
    by_cases hlt : k < r.sets.length
    · obtain ⟨g, o, rfl, hg, hc⟩ := HC.out (by omega)
      obtain ⟨x, hx⟩ : ∃ x, r.sets[k]? = some x := ⟨_, List.getElem?_eq_getElem hlt⟩
      obtain ⟨tv, ht, c0, c1⟩ := hc k x hx
      have HT := Lib.hid ht
      obtain ⟨xa, xcap, rfl, _, _, _⟩ := ht.open
      rw [← hbw.cell (p := ⟨g, _, none⟩) hg] at c0 c1
      have HGX : Hid (r.sets[k] = x) := (List.getElem?_eq_some_iff.1 hx).2
      have hxl := HL.out x (List.mem_of_getElem? hx)
      obtain ⟨⟨v0, v1⟩, hvx⟩ := HVS.out x (List.mem_of_getElem? hx)
      have HVX := Lib.hid hvx
      obtain ⟨q, hq⟩ := Int.eq_ofNat_of_zero_le v0
      obtain ⟨kg, ko, rfl, hkg, hkc⟩ := HKC.out (by omega)
      obtain ⟨z, hz⟩ : ∃ z, kinds.getD q 0 = z := ⟨_, rfl⟩
      have hkz := hkc q z (by rw [getD_of kinds q (by omega), hz])
      rw [← hbw.cell (p := ⟨kg, _, none⟩) hkg] at hkz
      obtain ⟨sa1, hsab⟩ : ∃ a, (ofF x.val kinds false).1 = a := ⟨_, rfl⟩
      have HSAB := Lib.hid hsab
      have HEQ : Hid (((ofF x.val kinds false).1 == kinds.getD x.var.toNat 0) = (sa1 == z)) := by unfold Hid; rw [hsab, hq, Int.toNat_natCast, hz]
      have hql : q < kinds.length := by omega
      rw [hq] at c0
      have iq0 : (0 : Int) ≤ (q : Int) := by omega
      have iq1 : (q : Int) < (kinds.length : Int) := by omega
      have ik0 : (0 : Int) ≤ (k : Int) := by omega
      have ik1 : (k : Int) < (r.sets.length : Int) := by omega
      clear hc ht hx hkc hz hsab v0 v1 hq hvx
      have hlt0 : w.heap.size < wr.heap.size := by omega
      have SA : wr.cell? ⟨w.heap.size, 2, none⟩ = some (.slice (some ⟨g, o, none⟩) r.sets.length scap) ∧ wr.cell? ⟨g, o + k * 2, none⟩ = some (.int .i64 (q : Int)) ∧ wr.cell? ⟨g, o + k * 2 + 1, none⟩ = some (.slice xa x.val.length xcap) ∧ wr.cell? ⟨kg, ko + q, none⟩ = some (.int .i64 z) := ⟨hbox, c0, c1, hkz⟩
      have hg2 : g < wr.heap.size := by omega
      have hkg2 : kg < wr.heap.size := by omega
      by_cases he : sa1 = z
      · have b3 : (sa1 != z) = false := by simp [he]
        have HST := Lib.hid (all_step (f := fun s : SetD => (ofF s.val kinds false).1 == kinds.getD s.var.toNat 0) k hlt hall.out (by rw [HGX.out, HEQ.out]; simpa using he))
        clear he
        go_wp2_with fail
        go_region_held3 (fun w' => w'.cell? ⟨w.heap.size, 2, none⟩ = some (.slice (some ⟨g, o, none⟩) r.sets.length scap) ∧ w'.cell? ⟨g, o + k * 2, none⟩ = some (.int .i64 (q : Int)) ∧ w'.cell? ⟨g, o + k * 2 + 1, none⟩ = some (.slice xa x.val.length xcap) ∧ w'.cell? ⟨kg, ko + q, none⟩ = some (.int .i64 z)) (first | exact SB | exact SA)
          (first | (go_at_call 31; refine (kind_is _ _ x.val kinds false sa1 _ (by omega) H6.out HKK.out HVX.out HSAB.out (HT.out.below (by exact hbw.drew)) (HK.out.below (by exact hbw.drew))).mono ?_; rintro e w2 ⟨rfl, hb2⟩; have SB : w2.cell? ⟨w.heap.size, 2, none⟩ = some (.slice (some ⟨g, o, none⟩) r.sets.length scap) ∧ w2.cell? ⟨g, o + k * 2, none⟩ = some (.int .i64 (q : Int)) ∧ w2.cell? ⟨g, o + k * 2 + 1, none⟩ = some (.slice xa x.val.length xcap) ∧ w2.cell? ⟨kg, ko + q, none⟩ = some (.int .i64 z) := ⟨(hb2.cell (p := ⟨_, _, none⟩) hlt0).trans hbox, (hb2.cell (p := ⟨_, _, none⟩) hg2).trans c0, (hb2.cell (p := ⟨_, _, none⟩) hg2).trans c1, (hb2.cell (p := ⟨_, _, none⟩) hkg2).trans hkz⟩))
        go_wp2_with fail
        exact ⟨⟨k + 1, by omega, by go_num, HST, hbel.out.drew.trans (hb2.mono (by simpa using hbs))⟩, by simp [intOf]; omega⟩
      · have b3 : (sa1 != z) = true := by simp [he]
        have H := Lib.hid (show typedB r kinds = false by rw [H0.out, all_bad k hlt (by rw [HGX.out, HEQ.out]; simpa using he)])
        clear he
        go_wp2_with fail
        go_region_held3 (fun w' => w'.cell? ⟨w.heap.size, 2, none⟩ = some (.slice (some ⟨g, o, none⟩) r.sets.length scap) ∧ w'.cell? ⟨g, o + k * 2, none⟩ = some (.int .i64 (q : Int)) ∧ w'.cell? ⟨g, o + k * 2 + 1, none⟩ = some (.slice xa x.val.length xcap) ∧ w'.cell? ⟨kg, ko + q, none⟩ = some (.int .i64 z)) (first | exact SB | exact SA)
          (first | (go_at_call 31; refine (kind_is _ _ x.val kinds false sa1 _ (by omega) H6.out HKK.out HVX.out HSAB.out (HT.out.below (by exact hbw.drew)) (HK.out.below (by exact hbw.drew))).mono ?_; rintro e w2 ⟨rfl, hb2⟩; have SB : w2.cell? ⟨w.heap.size, 2, none⟩ = some (.slice (some ⟨g, o, none⟩) r.sets.length scap) ∧ w2.cell? ⟨g, o + k * 2, none⟩ = some (.int .i64 (q : Int)) ∧ w2.cell? ⟨g, o + k * 2 + 1, none⟩ = some (.slice xa x.val.length xcap) ∧ w2.cell? ⟨kg, ko + q, none⟩ = some (.int .i64 z) := ⟨(hb2.cell (p := ⟨_, _, none⟩) hlt0).trans hbox, (hb2.cell (p := ⟨_, _, none⟩) hg2).trans c0, (hb2.cell (p := ⟨_, _, none⟩) hg2).trans c1, (hb2.cell (p := ⟨_, _, none⟩) hkg2).trans hkz⟩))
        go_wp2_with fail
        go_ret
        exact ⟨ret_bool H.out.symm, bthen hbw.drew hb2⟩
    · obtain rfl : k = r.sets.length := by omega
      have H2 := Lib.hid (show typedB r kinds = true by rw [H0.out, all_end hall.out])
      go_wp2_with fail
      go_ret
      exact ⟨ret_bool H2.out.symm, hbw⟩
end Go.Proofs.Ytogennegbihceaa
