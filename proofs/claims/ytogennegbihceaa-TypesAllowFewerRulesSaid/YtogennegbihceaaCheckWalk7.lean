/- The walks over the reference's Kinds, and over typed of both. -/
import Derived.Test.YtogennegbihceaaCheckWalk6
set_option linter.unusedVariables false
set_option maxRecDepth 100000
namespace Go.Proofs.Ytogennegbihceaa
open Go.RowKit Go.Maps

set_option maxHeartbeats 8000000 in
theorem rkinds_any (v : Value) (p : ProgD) (w : World) (hv : ProgOk w v p) (h6 : p.vars.length ≤ 1000) :
    Calls Try.prog 19 #[v] w fun e w' => ∃ kv, e = .returned kv ∧ Ints .i64 w' kv (kindsOf p) ∧ Below w.heap.size w w' := by
  obtain ⟨vv, rv, rfl, hvv, hrv⟩ := hv
  obtain ⟨a0, cap0, rfl, i1, i2, i3⟩ := hvv.open
  obtain ⟨a1, cap1, rfl, _, _, _⟩ := hrv.open
  have HVC := Lib.hid i3
  obtain ⟨i0, hi, hz0, hz1, hz2⟩ := info_parts infoInt
  have Hi := Lib.hid hi
  have Hz0 := Lib.hid hz0
  have Hz1 := Lib.hid hz1
  have Hz2 := Lib.hid hz2
  have HKL := Lib.hid (show (kindsOf p).length = p.vars.length by simp [kindsOf])
  clear hi hz0 hz1 hz2 i3 hvv hrv
  go_enter Try.func19, Try.ntmps19
  go_wp2_with fail
  go_loopw [3, 4] (fun v i wr => ∃ k : Nat, k ≤ p.vars.length ∧ i = .int .i64 k ∧ Hid (wr.ownsRow (w.heap.size + 1) 3 1 v k (((kindsOf p).take k).map (.int .i64))) ∧ Hid (Below (w.heap.size + 1) (w.alloc (.cells #[.string p.name, .slice a0 p.vars.length cap0, .slice a1 p.rules.length cap1] 25)) wr)) (fun _ i _ => p.vars.length - (intOf i).toNat)
  case atStart => exact ⟨0, by omega, rfl, World.ownsRow_nil _ _ _ _, Below.refl _ _⟩
  case round =>
    obtain ⟨k, hk, rfl, hown, hbel⟩ := hrel
    have hbw := box_below hbel.out
    have hbs := box_size hbel.out
    have hbox := box_at hbel.out 1
    simp at hbox
    by_cases hlt : k < p.vars.length
    · obtain ⟨g, o, rfl, hg, hc⟩ := HVC.out (by omega)
      obtain ⟨x, hx⟩ : ∃ x, p.vars[k]? = some x := ⟨_, List.getElem?_eq_getElem hlt⟩
      obtain ⟨_, c1, _, _, _, _⟩ := hc k x hx
      rw [← hbw.cell (p := ⟨g, _, none⟩) hg] at c1
      have HST := Lib.hid (show ((kindsOf p).take k).map (Value.int .i64) ++ [.int .i64 x.kind] = ((kindsOf p).take (k + 1)).map (.int .i64) by
        obtain ⟨_, h2⟩ := List.getElem?_eq_some_iff.1 hx
        rw [List.take_succ_eq_append_getElem (show k < (kindsOf p).length by rw [HKL.out]; exact hlt), List.map_append]
        simp [kindsOf, h2])
      have hlt0 : w.heap.size < wr.heap.size := by omega
      clear hc hx
      go_wp2_with (at_builtin; refine wpList_append_row _ rfl _ _ 44 rfl (w.heap.size + 1) 3 i0 (.int .i64 0) 1 8 Try.underlying44 Hi.out Hz0.out Hz1.out Hz2.out rfl (by decide) _ k _ rfl (hown.out.alloc _) _ 1 [.int .i64 x.kind] rfl (row_alloc wr [.int .i64 x.kind] _ 1 1 (by omega) rfl) (by simp [Value.oneCell']) (by unfold maxLen; omega) (by omega) (by simp; omega) ?_; intro v2 w2 hown2 hgrow)
      refine ⟨⟨k + 1, by omega, by go_num, ?_, ?_⟩, by simp [intOf]; omega⟩
      · rw [HST.out] at hown2; exact hown2
      · exact (hbel.out.alloc hbs _).grown hgrow (by simp; omega) (own_ge hown.out)
    · obtain rfl : k = p.vars.length := by omega
      have HR : Hid (Ints .i64 wr u3 (kindsOf p)) := by
        have h1 := row_of_own hown.out
        rw [List.take_of_length_le (by rw [HKL.out]; omega)] at h1
        unfold Hid Ints
        rw [HKL.out]
        exact h1
      go_wp2_with fail
      go_ret
      exact ⟨_, rfl, HR.out, hbw⟩

theorem typed_end {r : RuleD} {kinds : List Int} (h : ((ofF r.guard kinds false).1 == 2) = true) : typedB r kinds = r.sets.all (fun s => (ofF s.val kinds false).1 == kinds.getD s.var.toNat 0) := by unfold typedB; rw [h]; rfl

set_option maxHeartbeats 8000000 in
theorem typed_any (gv sv kv : Value) (r : RuleD) (kinds : List Int) (w : World) (hg : Terms w gv r.guard) (hs : Seq (SetOk w) 2 w sv r.sets) (hk : Ints .i64 w kv kinds) (hl : LightR r) (hvar : ∀ s ∈ r.sets, 0 ≤ s.var ∧ s.var < kinds.length) :
    Calls Try.prog 27 #[.agg #[.string r.name, gv, sv], kv] w fun e w' => e = .returned (.bool (typedB r kinds)) ∧ Below w.heap.size w w' := by
  obtain ⟨hl1, hl2, hl3⟩ := hl
  have HL := Lib.hid hl3
  have HG := Lib.hid hg
  have HK := Lib.hid hk
  have HVAR := Lib.hid hvar
  obtain ⟨ga, gcap, rfl, g1, g2, g3⟩ := hg.open
  obtain ⟨sa, scap, rfl, s1, s2, s3⟩ := sets_open hs
  obtain ⟨ka, kcap, rfl, k1, k2, _, k4⟩ := hk.open
  have HC := Lib.hid s3
  have HKC := Lib.hid k4
  clear hl3 g3 s3 hs hg k4 hk hvar
  obtain ⟨ta, tb, hab⟩ : ∃ a b, ofF r.guard kinds false = (a, b) := ⟨_, _, rfl⟩
  have HAB := Lib.hid hab
  have HT1 : Hid ((ofF r.guard kinds false).1 = ta) := by rw [hab]; rfl
  clear hab
  have hbA : Below w.heap.size w (w.alloc (.cells #[.string r.name, .slice ga r.guard.length gcap, .slice sa r.sets.length scap] 32)) := (Below.refl _ _).alloc (Nat.le_refl _) _
  by_cases h2 : ta = 2
  rotate_left
  · have b2 : (ta != 2) = true := by simp [h2]
    have H := Lib.hid (show typedB r kinds = false by unfold typedB; rw [HT1.out, show (ta == 2) = false by simpa using h2]; rfl)
    go_enter Try.func27, Try.ntmps27
    go_wp2_with fail
    refine (of_is _ _ r.guard kinds false ta tb _ (by omega) (HG.out.below hbA) (HK.out.below hbA) HAB.out).mono ?_
    rintro e w1 ⟨rfl, hb1⟩
    go_wp2_with fail
    go_ret
    exact ⟨ret_bool H.out.symm, box_below (by simpa using hb1)⟩
  have b2 : (ta != 2) = false := by simp [h2]
  have H0 := Lib.hid (typed_end (r := r) (kinds := kinds) (by rw [HT1.out, h2]; rfl))
  clear h2
  go_enter Try.func27, Try.ntmps27
  go_wp2_with fail
  refine (of_is _ _ r.guard kinds false ta tb _ (by omega) (HG.out.below hbA) (HK.out.below hbA) HAB.out).mono ?_
  rintro e w1 ⟨rfl, hb1'⟩
  have hb1 : Below (w.heap.size + 1) (w.alloc (.cells #[.string r.name, .slice ga r.guard.length gcap, .slice sa r.sets.length scap] 32)) w1 := by simpa using hb1'
  have hbox := box_at hb1 2
  simp at hbox
  clear hb1'
  go_wp2_with fail
  clear hbox
  go_loopw [8, 9, 10, 23] (fun _ _ _ i wr => ∃ k : Nat, k ≤ r.sets.length ∧ i = .int .i64 k ∧ Hid ((r.sets.take k).all (fun s => (ofF s.val kinds false).1 == kinds.getD s.var.toNat 0) = true) ∧ Hid (Below (w.heap.size + 1) (w.alloc (.cells #[.string r.name, .slice ga r.guard.length gcap, .slice sa r.sets.length scap] 32)) wr)) (fun _ _ _ i _ => r.sets.length - (intOf i).toNat)
  case atStart => exact ⟨0, by omega, rfl, rfl, hb1⟩
  case round =>
    clear hb1
    obtain ⟨k, hk, rfl, hall, hbel⟩ := hrel
    have hbw := box_below hbel.out
    have hbs := box_size hbel.out
    by_cases hlt : k < r.sets.length
    · obtain ⟨g, o, rfl, hg, hc⟩ := HC.out (by omega)
      obtain ⟨x, hx⟩ : ∃ x, r.sets[k]? = some x := ⟨_, List.getElem?_eq_getElem hlt⟩
      obtain ⟨tv, ht, c0, c1⟩ := hc k x hx
      have HT := Lib.hid ht
      obtain ⟨xa, xcap, rfl, _, _, _⟩ := ht.open
      rw [← hbw.cell (p := ⟨g, _, none⟩) hg] at c0 c1
      have HGX : Hid (r.sets[k] = x) := (List.getElem?_eq_some_iff.1 hx).2
      have hxl := HL.out x (List.mem_of_getElem? hx)
      obtain ⟨v0, v1⟩ := HVAR.out x (List.mem_of_getElem? hx)
      obtain ⟨q, hq⟩ := Int.eq_ofNat_of_zero_le v0
      obtain ⟨kg, ko, rfl, hkg, hkc⟩ := HKC.out (by omega)
      obtain ⟨z, hz⟩ : ∃ z, kinds.getD q 0 = z := ⟨_, rfl⟩
      have hkz := hkc q z (by rw [getD_of kinds q (by omega), hz])
      obtain ⟨sa1, sb1, hsab⟩ : ∃ a b, ofF x.val kinds false = (a, b) := ⟨_, _, rfl⟩
      have HSAB := Lib.hid hsab
      have HEQ : Hid (((ofF x.val kinds false).1 == kinds.getD x.var.toNat 0) = (sa1 == z)) := by unfold Hid; rw [hsab, hq, Int.toNat_natCast, hz]
      have hql : q < kinds.length := by omega
      rw [hq] at c0
      have HKZ := Lib.hid hkz
      have HQ := Lib.hid hq
      clear hc ht hx hkc hz hsab v0 v1 hkz hq
      by_cases he : sa1 = z
      · have b3 : (sa1 != z) = false := by simp [he]
        have HST := Lib.hid (all_step (f := fun s : SetD => (ofF s.val kinds false).1 == kinds.getD s.var.toNat 0) k hlt hall.out (by rw [HGX.out, HEQ.out]; simpa using he))
        clear he
        go_wp2_with fail
        refine (of_is _ _ x.val kinds false sa1 sb1 _ (by omega) (HT.out.below (hbw.alloc (by omega) _)) (HK.out.below (hbw.alloc (by omega) _)) HSAB.out).mono ?_
        rintro e w2 ⟨rfl, hb2'⟩
        have hb2 : Below (wr.heap.size + 1) (wr.alloc (.cells #[.int .i64 (q : Int), .slice xa x.val.length xcap] 38)) w2 := by simpa using hb2'
        have hbx := box_at hb2 0
        simp at hbx
        have hb02 := bthen hbw (box_below hb2)
        have hkz := HKZ.out
        rw [← hb02.cell (p := ⟨kg, _, none⟩) hkg] at hkz
        clear hb2'
        go_wp2_with fail
        exact ⟨⟨k + 1, by omega, by go_num, HST, hbel.out.trans ((box_below hb2).mono hbs)⟩, by simp [intOf]; omega⟩
      · have b3 : (sa1 != z) = true := by simp [he]
        have H := Lib.hid (show typedB r kinds = false by rw [H0.out, all_bad k hlt (by rw [HGX.out, HEQ.out]; simpa using he)])
        clear he
        go_wp2_with fail
        refine (of_is _ _ x.val kinds false sa1 sb1 _ (by omega) (HT.out.below (hbw.alloc (by omega) _)) (HK.out.below (hbw.alloc (by omega) _)) HSAB.out).mono ?_
        rintro e w2 ⟨rfl, hb2'⟩
        have hb2 : Below (wr.heap.size + 1) (wr.alloc (.cells #[.int .i64 (q : Int), .slice xa x.val.length xcap] 38)) w2 := by simpa using hb2'
        have hbx := box_at hb2 0
        simp at hbx
        have hb02 := bthen hbw (box_below hb2)
        have hkz := HKZ.out
        rw [← hb02.cell (p := ⟨kg, _, none⟩) hkg] at hkz
        clear hb2'
        go_wp2_with fail
        go_ret
        exact ⟨ret_bool H.out.symm, hb02⟩
    · obtain rfl : k = r.sets.length := by omega
      have H2 := Lib.hid (show typedB r kinds = true by rw [H0.out, all_end hall.out])
      go_wp2_with fail
      go_ret
      exact ⟨ret_bool H2.out.symm, hbw⟩
end Go.Proofs.Ytogennegbihceaa
