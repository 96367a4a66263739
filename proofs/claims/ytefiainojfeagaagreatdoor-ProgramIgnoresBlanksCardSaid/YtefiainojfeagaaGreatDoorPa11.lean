/- Part 11 of the texts under ProgramFormats,ProgramReadsBack,ProgramTellsProgramsApart,ProgramGrowsByLines,ProgramIgnoresBlanks: joined, with what it needs alone. -/
import Derived.Test.YtefiainojfeagaaGreatDoorPa6
import Derived.Test.YtefiainojfeagaaGreatDoorPa7
import Derived.Test.YtefiainojfeagaaGreatDoorPa8
import Derived.Test.YtefiainojfeagaaGreatDoorPa9
import Derived.Test.YtefiainojfeagaaGreatDoorPa10
set_option linter.unusedVariables false
set_option maxRecDepth 100000
namespace Go.Proofs.YtefiainojfeagaaGreatDoor
section
open Go.RowKit Go.Maps
theorem ofF_ty {l : List Tm} {kinds : List Int} {bound : Bool} (h6 : ¬ 6 < kinds.length) (hk : ymi kinds = true) (hv : yco l kinds.length = true) : ∃ E, yfx l = some E ∧ E.ok ∧ E.fl = l ∧ (∀ t ∈ l, yhl kinds.length t = true) ∧ (ofF l kinds bound).1 = ty kinds bound E := by
 obtain ⟨E, hp, ho, hf, _, ha, _, _⟩ := zcr hv
 refine ⟨E, hp, ho, hf, List.all_eq_true.1 ha, ?_⟩
 rw [zsy l kinds bound E h6 hk hv hp]
 split
 ·rename_i h; rw [h]
 ·rfl
theorem zga (ev kv : Value) (l : List Tm) (kinds : List Int) (bound : Bool) (a : Int) (w : World) (hl : l.length ≤ 1000) (h6 : ¬ 6 < kinds.length) (hkk : ymi kinds = true) (hv : yco l kinds.length = true) (ha : (ofF l kinds bound).1 = a) (ht : yei w ev l) (hk : yti .i64 w kv kinds) :
  Calls Tryz.prog 100 #[ev, .int .i64 0, kv, .bool bound] w fun e w' => e = .returned (.int .i64 a) ∧ Below w.heap.size w w' := by
 obtain ⟨E, _, ho, hf, harg, he⟩ := ofF_ty (bound := bound) h6 hkk hv
 exact (kind0 ev kv l kinds bound E w hl ho harg hf ht hk).mono fun e w' ⟨h1, h2⟩ => ⟨by rw [h1, ← he, ha], h2⟩
set_option maxHeartbeats 8000000 in
theorem zej (gv sv kv : Value) (r : RuleD) (kinds : List Int) (w : World) (hg : yei w gv r.guard) (hs : Seq (ymw w) 2 w sv r.sets) (hk : yti .i64 w kv kinds) (hl : zhb r) (h6 : ¬ 6 < kinds.length) (hkk : ymi kinds = true) (hform : yci r kinds.length = true) :
  Calls Tryz.prog 69 #[.agg #[.string r.name, gv, sv], kv] w fun e w' => e = .returned (.bool (ygw r kinds)) ∧ Below w.heap.size w w' := by
 obtain ⟨hl1, hl2, hl3⟩ := hl
 have hform' := hform
 rw [yje] at hform'
 simp only [Bool.and_eq_true, yrm, List.all_eq_true, zpa, ycw, decide_eq_true_eq] at hform'
 obtain ⟨_, _, hvg, hvs, _⟩ := hform'
 have HVG := Lib.hid hvg
 have HVS := Lib.hid hvs
 have HKK := Lib.hid hkk
 have H6 := Lib.hid h6
 have HL := Lib.hid hl3
 have HG := Lib.hid hg
 have HK := Lib.hid hk
 obtain ⟨ga, gcap, rfl, g1, g2, g3⟩ := hg.open
 obtain ⟨sa, scap, rfl, s1, s2, s3⟩ := yhg hs
 obtain ⟨ka, kcap, rfl, k1, k2, _, k4⟩ := hk.open
 have HC := Lib.hid s3
 have HKC := Lib.hid k4
 clear hl3 g3 s3 hs hg k4 hk hvg hvs hform hkk h6
 obtain ⟨ta, hta⟩ : ∃ a, (ofF r.guard kinds false).1 = a := ⟨_, rfl⟩
 have HT1 := Lib.hid hta
 clear hta
 have hbA : Below w.heap.size w (w.alloc (.cells #[.string r.name, .slice ga r.guard.length gcap, .slice sa r.sets.length scap] 47)) := (Below.refl _ _).alloc (Nat.le_refl _) _
 by_cases h2 : ta = 2
 rotate_left
 ·have b2 : (ta != 2) = true := by simp [h2]
  have H := Lib.hid (show ygw r kinds = false by unfold ygw; rw [HT1.out, show (ta == 2) = false by simpa using h2]; rfl)
  go_enter Tryz.func69, Tryz.ntmps69
  go_wp2_with fail
  refine (zga _ _ r.guard kinds false ta _ (by omega) H6.out HKK.out HVG.out HT1.out (HG.out.below hbA) (HK.out.below hbA)).mono ?_
  rintro e w1 ⟨rfl, hb1⟩
  go_wp2_with fail
  go_ret
  exact ⟨yae H.out.symm, ybj (by simpa using hb1)⟩
 have b2 : (ta != 2) = false := by simp [h2]
 have H0 := Lib.hid (zka (r := r) (kinds := kinds) (by rw [HT1.out, h2]; rfl))
 clear h2
 go_enter Tryz.func69, Tryz.ntmps69
 go_wp2_with fail
 refine (zga _ _ r.guard kinds false ta _ (by omega) H6.out HKK.out HVG.out HT1.out (HG.out.below hbA) (HK.out.below hbA)).mono ?_
 rintro e w1 ⟨rfl, hb1'⟩
 have hb1 : Below (w.heap.size + 1) (w.alloc (.cells #[.string r.name, .slice ga r.guard.length gcap, .slice sa r.sets.length scap] 47)) w1 := by simpa using hb1'
 clear hb1'
 go_wp2_with fail
 go_loopw [5] (fun i wr => ∃ k : Nat, k ≤ r.sets.length ∧ i = .int .i64 k ∧ Hid ((r.sets.take k).all (fun s => (ofF s.val kinds false).1 == kinds.getD s.var.toNat 0) = true) ∧ Hid (Below (w.heap.size + 1) (w.alloc (.cells #[.string r.name, .slice ga r.guard.length gcap, .slice sa r.sets.length scap] 47)) wr)) (fun i _ => r.sets.length - (intOf i).toNat)
 case atStart => exact ⟨0, by omega, rfl, rfl, hb1⟩
 case round =>
  clear hb1
  obtain ⟨k, hk, rfl, hall, hbel⟩ := hrel
  have hbw := ybj hbel.out
  have hbs := ydh hbel.out
  have hbox := ydv hbel.out 2
  simp at hbox
  by_cases hlt : k < r.sets.length
  ·obtain ⟨g, o, rfl, hg, hc⟩ := HC.out (by omega)
   obtain ⟨x, hx⟩ : ∃ x, r.sets[k]? = some x := ⟨_, List.getElem?_eq_getElem hlt⟩
   obtain ⟨tv, ht, c0, c1⟩ := hc k x hx
   have HT := Lib.hid ht
   obtain ⟨xa, xcap, rfl, _, _, _⟩ := ht.open
   rw [← hbw.cell (p := ⟨g, _, none⟩) hg] at c0 c1
   have HGX : Hid (r.sets[k] = x) := (List.getElem?_eq_some_iff.1 hx).2
   have hxl := HL.out x (List.mem_of_getElem? hx)
   obtain ⟨⟨v0, v1⟩, hvx⟩ := HVS.out x (List.mem_of_getElem? hx)
   have HVX := Lib.hid hvx
   obtain ⟨q, hq⟩ := Int.eq_ofNat_of_zero_le v0
   obtain ⟨kg, ko, rfl, hkg, hkc⟩ := HKC.out (by omega)
   obtain ⟨z, hz⟩ : ∃ z, kinds.getD q 0 = z := ⟨_, rfl⟩
   have hkz := hkc q z (by rw [yvx kinds q (by omega), hz])
   rw [← hbw.cell (p := ⟨kg, _, none⟩) hkg] at hkz
   obtain ⟨sa1, hsab⟩ : ∃ a, (ofF x.val kinds false).1 = a := ⟨_, rfl⟩
   have HSAB := Lib.hid hsab
   have HEQ : Hid (((ofF x.val kinds false).1 == kinds.getD x.var.toNat 0) = (sa1 == z)) := by unfold Hid; rw [hsab, hq, Int.toNat_natCast, hz]
   have hql : q < kinds.length := by omega
   rw [hq] at c0
   have iq0 : (0 : Int) ≤ (q : Int) := by omega
   have iq1 : (q : Int) < (kinds.length : Int) := by omega
   have ik0 : (0 : Int) ≤ (k : Int) := by omega
   have ik1 : (k : Int) < (r.sets.length : Int) := by omega
   clear hc ht hx hkc hz hsab v0 v1 hq hvx
   have hlt0 : w.heap.size < wr.heap.size := by omega
   have SA : wr.cell? ⟨w.heap.size, 2, none⟩ = some (.slice (some ⟨g, o, none⟩) r.sets.length scap) ∧ wr.cell? ⟨g, o + k * 2, none⟩ = some (.int .i64 (q : Int)) ∧ wr.cell? ⟨g, o + k * 2 + 1, none⟩ = some (.slice xa x.val.length xcap) ∧ wr.cell? ⟨kg, ko + q, none⟩ = some (.int .i64 z) := ⟨hbox, c0, c1, hkz⟩
   have hg2 : g < wr.heap.size := by omega
   have hkg2 : kg < wr.heap.size := by omega
   by_cases he : sa1 = z
   ·have b3 : (sa1 != z) = false := by simp [he]
    have HST := Lib.hid (yii (f := fun s : SetD => (ofF s.val kinds false).1 == kinds.getD s.var.toNat 0) k hlt hall.out (by rw [HGX.out, HEQ.out]; simpa using he))
    clear he
    go_wp2_with fail
    go_region_held3 (fun w' => w'.cell? ⟨w.heap.size, 2, none⟩ = some (.slice (some ⟨g, o, none⟩) r.sets.length scap) ∧ w'.cell? ⟨g, o + k * 2, none⟩ = some (.int .i64 (q : Int)) ∧ w'.cell? ⟨g, o + k * 2 + 1, none⟩ = some (.slice xa x.val.length xcap) ∧ w'.cell? ⟨kg, ko + q, none⟩ = some (.int .i64 z)) (first | exact SB | exact SA)
     (first | (go_at_call 100; refine (zga _ _ x.val kinds false sa1 _ (by omega) H6.out HKK.out HVX.out HSAB.out (HT.out.below (by exact hbw.drew)) (HK.out.below (by exact hbw.drew))).mono ?_; rintro e w2 ⟨rfl, hb2⟩; have SB : w2.cell? ⟨w.heap.size, 2, none⟩ = some (.slice (some ⟨g, o, none⟩) r.sets.length scap) ∧ w2.cell? ⟨g, o + k * 2, none⟩ = some (.int .i64 (q : Int)) ∧ w2.cell? ⟨g, o + k * 2 + 1, none⟩ = some (.slice xa x.val.length xcap) ∧ w2.cell? ⟨kg, ko + q, none⟩ = some (.int .i64 z) := ⟨(hb2.cell (p := ⟨_, _, none⟩) hlt0).trans hbox, (hb2.cell (p := ⟨_, _, none⟩) hg2).trans c0, (hb2.cell (p := ⟨_, _, none⟩) hg2).trans c1, (hb2.cell (p := ⟨_, _, none⟩) hkg2).trans hkz⟩))
    go_wp2_with fail
    exact ⟨⟨k + 1, by omega, by go_num, HST, hbel.out.drew.trans (hb2.mono (by simpa using hbs))⟩, by simp [intOf]; omega⟩
   ·have b3 : (sa1 != z) = true := by simp [he]
    have H := Lib.hid (show ygw r kinds = false by rw [H0.out, yih k hlt (by rw [HGX.out, HEQ.out]; simpa using he)])
    clear he
    go_wp2_with fail
    go_region_held3 (fun w' => w'.cell? ⟨w.heap.size, 2, none⟩ = some (.slice (some ⟨g, o, none⟩) r.sets.length scap) ∧ w'.cell? ⟨g, o + k * 2, none⟩ = some (.int .i64 (q : Int)) ∧ w'.cell? ⟨g, o + k * 2 + 1, none⟩ = some (.slice xa x.val.length xcap) ∧ w'.cell? ⟨kg, ko + q, none⟩ = some (.int .i64 z)) (first | exact SB | exact SA)
     (first | (go_at_call 100; refine (zga _ _ x.val kinds false sa1 _ (by omega) H6.out HKK.out HVX.out HSAB.out (HT.out.below (by exact hbw.drew)) (HK.out.below (by exact hbw.drew))).mono ?_; rintro e w2 ⟨rfl, hb2⟩; have SB : w2.cell? ⟨w.heap.size, 2, none⟩ = some (.slice (some ⟨g, o, none⟩) r.sets.length scap) ∧ w2.cell? ⟨g, o + k * 2, none⟩ = some (.int .i64 (q : Int)) ∧ w2.cell? ⟨g, o + k * 2 + 1, none⟩ = some (.slice xa x.val.length xcap) ∧ w2.cell? ⟨kg, ko + q, none⟩ = some (.int .i64 z) := ⟨(hb2.cell (p := ⟨_, _, none⟩) hlt0).trans hbox, (hb2.cell (p := ⟨_, _, none⟩) hg2).trans c0, (hb2.cell (p := ⟨_, _, none⟩) hg2).trans c1, (hb2.cell (p := ⟨_, _, none⟩) hkg2).trans hkz⟩))
    go_wp2_with fail
    go_ret
    exact ⟨yae H.out.symm, yfm hbw.drew hb2⟩
  ·obtain rfl : k = r.sets.length := by omega
   have H2 := Lib.hid (show ygw r kinds = true by rw [H0.out, ylg hall.out])
   go_wp2_with fail
   go_ret
   exact ⟨yae H2.out.symm, hbw⟩
end
section
open Go.RowKit Go.Maps
def yne (p : ProgD) : Prop := p.vars.length ≤ 1000 ∧ p.rules.length ≤ 1000 ∧ ∀ r ∈ p.rules, zhb r
theorem yli {p : ProgD} (h : p.vars.length = 0 ∨ 6 < p.vars.length ∨ 12 < p.rules.length) : ycn p = 3 := by unfold ycn; rw [if_pos h]
theorem zdn {p : ProgD} (h : ¬ (p.vars.length = 0 ∨ 6 < p.vars.length ∨ 12 < p.rules.length)) (h1 : ydq p = false) : ycn p = 5 := by unfold ycn; rw [if_neg h, if_pos h1]
theorem zhq {p : ProgD} (h : ¬ (p.vars.length = 0 ∨ 6 < p.vars.length ∨ 12 < p.rules.length)) (h1 : ydq p = true) (h2 : p.vars.all ysx = false) : ycn p = 2 := by unfold ycn; rw [if_neg h, if_neg (by simp [h1]), if_pos h2]
theorem zdl {p : ProgD} (h : ¬ (p.vars.length = 0 ∨ 6 < p.vars.length ∨ 12 < p.rules.length)) (h1 : ydq p = true) (h2 : p.vars.all ysx = true) (h3 : p.rules.all (yci · p.vars.length) = false) : ycn p = 7 := by unfold ycn; rw [if_neg h, if_neg (by simp [h1]), if_neg (by simp [h2]), if_pos h3]
theorem zdo {p : ProgD} (h : ¬ (p.vars.length = 0 ∨ 6 < p.vars.length ∨ 12 < p.rules.length)) (h1 : ydq p = true) (h2 : p.vars.all ysx = true) (h3 : p.rules.all (yci · p.vars.length) = true) (h4 : p.rules.all (ygw · (ycg p)) = false) : ycn p = 6 := by unfold ycn; rw [if_neg h, if_neg (by simp [h1]), if_neg (by simp [h2]), if_neg (by simp [h3]), if_pos h4]
theorem zfh {p : ProgD} (h : ¬ (p.vars.length = 0 ∨ 6 < p.vars.length ∨ 12 < p.rules.length)) (h1 : ydq p = true) (h2 : p.vars.all ysx = true) (h3 : p.rules.all (yci · p.vars.length) = true) (h4 : p.rules.all (ygw · (ycg p)) = true) : ycn p = 0 := by unfold ycn; rw [if_neg h, if_neg (by simp [h1]), if_neg (by simp [h2]), if_neg (by simp [h3]), if_neg (by simp [h4])]
theorem formed_vars {r : RuleD} {n : Nat} (h : yci r n = true) : ∀ s ∈ r.sets, 0 ≤ s.var ∧ s.var < n := by
 rw [yje] at h
 simp only [Bool.and_eq_true, yrm, List.all_eq_true, zpa, ycw, decide_eq_true_eq] at h
 intro s hs
 have := (h.2.2.2.1 s hs).1
 omega
theorem yxt {p : ProgD} (h : p.vars.all ysx = true) : ymi (ycg p) = true := by
 unfold ymi ycg
 rw [List.all_map, List.all_eq_true]
 intro x hx
 have := List.all_eq_true.1 h x hx
 unfold ysx at this
 rw [Bool.and_eq_true] at this
 exact this.1
theorem zdj {w : World} {p : ProgD} {a0 a1 : Option Addr} {cap0 cap1 : Nat} (h : ygi w (.agg #[.string p.name, .slice a0 p.vars.length cap0, .slice a1 p.rules.length cap1]) p) : ygi (w.alloc (.cells #[.string p.name, .slice a0 p.vars.length cap0, .slice a1 p.rules.length cap1] 25)) (.agg #[.string p.name, .slice a0 p.vars.length cap0, .slice a1 p.rules.length cap1]) p := h.below ((Below.refl _ _).alloc (Nat.le_refl _) _)
set_option maxHeartbeats 16000000 in
theorem zhp (v : Value) (p : ProgD) (w : World) (hv : ygi w v p) (hin : yet p) (hlight : yne p) :
  Calls Tryz.prog 29 #[v] w fun e w' => e = .returned (.int .i64 (ycn p)) ∧ Below w.heap.size w w' := by
 obtain ⟨hp1, hp2, hp3⟩ := hlight
 have HLR := Lib.hid hp3
 have HP := Lib.hid hv
 have HIN := Lib.hid hin
 obtain ⟨vv, rv, rfl, hvv, hrv⟩ := hv
 obtain ⟨a0, cap0, rfl, i1, i2, i3⟩ := hvv.open
 obtain ⟨a1, cap1, rfl, j1, j2, j3⟩ := hrv.open
 have HVC := Lib.hid i3
 have HRC := Lib.hid j3
 clear i3 j3 hvv hrv hp3 hin
 by_cases h0 : p.vars.length = 0
 ·have b0 : ((p.vars.length : Int) == 0) = true := by simp [h0]
  have H := Lib.hid (yli (.inl h0))
  have h0' : p.vars.length < 1 := by omega
  clear h0
  go_enter Tryz.func29, Tryz.ntmps29
  go_wp2_with fail
  go_ret
  exact ⟨yak H.out.symm, (Below.refl _ _).alloc (Nat.le_refl _) _⟩
 have b0 : ((p.vars.length : Int) == 0) = false := beq_eq_false_iff_ne.2 (by omega)
 by_cases h6 : 6 < p.vars.length
 ·have H := Lib.hid (yli (.inr (.inl h6)))
  go_enter Tryz.func29, Tryz.ntmps29
  go_wp2_with fail
  go_ret
  exact ⟨yak H.out.symm, (Below.refl _ _).alloc (Nat.le_refl _) _⟩
 have b6 : decide (6 < p.vars.length) = false := by simp; omega
 have b6' : decide (6 < (p.vars.length : Int)) = false := by simp; omega
 by_cases h12 : 12 < p.rules.length
 ·have H := Lib.hid (yli (.inr (.inr h12)))
  go_enter Tryz.func29, Tryz.ntmps29
  go_wp2_with fail
  go_ret
  exact ⟨yak H.out.symm, (Below.refl _ _).alloc (Nat.le_refl _) _⟩
 have b12 : decide (12 < p.rules.length) = false := by simp; omega
 have b12' : decide (12 < (p.rules.length : Int)) = false := by simp; omega
 have HLIM := Lib.hid (show ¬ (p.vars.length = 0 ∨ 6 < p.vars.length ∨ 12 < p.rules.length) by omega)
 have HN0 := Lib.hid h0
 have h0' : 0 < p.vars.length := by omega
 clear h0
 rcases Bool.eq_false_or_eq_true (ydq p) with qn | qn
 rotate_left
 ·have H := Lib.hid (zdn HLIM.out qn)
  go_enter Tryz.func29, Tryz.ntmps29
  go_wp2_with fail
  refine (zin _ p _ (by exact zdj HP.out) HIN.out (by omega) (by omega)).mono ?_
  rintro e w1 ⟨rfl, hb1⟩
  go_wp2_with fail
  go_ret
  exact ⟨yak H.out.symm, ybj (by simpa using hb1)⟩
 go_enter Tryz.func29, Tryz.ntmps29
 go_wp2_with fail
 refine (zin _ p _ (by exact zdj HP.out) HIN.out (by omega) (by omega)).mono ?_
 rintro e w1 ⟨rfl, hb1'⟩
 have hb1 : Below (w.heap.size + 1) (w.alloc (.cells #[.string p.name, .slice a0 p.vars.length cap0, .slice a1 p.rules.length cap1] 25)) w1 := by simpa using hb1'
 have hbox := ydv hb1 1
 simp at hbox
 clear hb1'
 go_wp2_with fail
 clear hbox
 go_loopw [4, 32] (fun _ i wr => ∃ k : Nat, k ≤ p.vars.length ∧ i = .int .i64 k ∧ Hid ((p.vars.take k).all ysx = true) ∧ Hid (Below (w.heap.size + 1) (w.alloc (.cells #[.string p.name, .slice a0 p.vars.length cap0, .slice a1 p.rules.length cap1] 25)) wr)) (fun _ i _ => p.vars.length - (intOf i).toNat)
 case atStart => exact ⟨0, by omega, rfl, rfl, hb1⟩
 case round =>
  clear hb1
  obtain ⟨k, hk, rfl, hall, hbel⟩ := hrel
  have hbw := ybj hbel.out
  have hbs := ydh hbel.out
  have hbox := ydv hbel.out 1
  have hbox2 := ydv hbel.out 2
  simp at hbox hbox2
  by_cases hlt : k < p.vars.length
  ·obtain ⟨g, o, rfl, hg, hc⟩ := HVC.out (by omega)
   obtain ⟨x, hx⟩ : ∃ x, p.vars[k]? = some x := ⟨_, List.getElem?_eq_getElem hlt⟩
   obtain ⟨c0, c1, c2, c3, c4, c5⟩ := hc k x hx
   rw [← hbw.cell (p := ⟨g, _, none⟩) hg] at c0 c1 c2 c3 c4 c5
   have HGX : Hid (p.vars[k] = x) := (List.getElem?_eq_some_iff.1 hx).2
   clear hc hx
   rcases Bool.eq_false_or_eq_true (ysx x) with q1 | q1
   ·have HST := Lib.hid (yii k hlt hall.out (by rw [HGX.out]; exact q1))
    go_wp2_with (go_at_call 56; refine (zbm x _).mono ?_; rintro e w2 ⟨rfl, hb2⟩)
    exact ⟨⟨k + 1, by omega, by go_num, HST, (hbel.out.alloc hbs _).trans (hb2.mono (by simp; omega))⟩, by simp [intOf]; omega⟩
   ·have H := Lib.hid (zhq HLIM.out qn (yih k hlt (by rw [HGX.out]; exact q1)))
    go_wp2_with (go_at_call 56; refine (zbm x _).mono ?_; rintro e w2 ⟨rfl, hb2⟩)
    go_ret
    exact ⟨yak H.out.symm, (hbw.alloc (by omega) _).trans (hb2.mono (by simp; omega))⟩
  ·obtain rfl : k = p.vars.length := by omega
   have hnum : p.vars.all ysx = true := ylg hall.out
   have HNUM := Lib.hid hnum
   clear hnum
   obtain ⟨wo, rfl⟩ : ∃ wo : World, wo = wr := ⟨_, rfl⟩
   go_wp2_with fail
   go_loopw [6, 43] (fun _ i wr => ∃ k : Nat, k ≤ p.rules.length ∧ i = .int .i64 k ∧ Hid ((p.rules.take k).all (yci · p.vars.length) = true) ∧ Hid (Below (w.heap.size + 1) (w.alloc (.cells #[.string p.name, .slice a0 p.vars.length cap0, .slice a1 p.rules.length cap1] 25)) wr)) (fun _ i _ => p.rules.length - (intOf i).toNat)
   case atStart => exact ⟨0, by omega, rfl, rfl, hbel⟩
   case round =>
    clear hbel hbw hbs hbox hbox2 hall
    obtain ⟨k, hk, rfl, hall, hbel⟩ := hrel
    have hbw := ybj hbel.out
    have hbs := ydh hbel.out
    have hbox := ydv hbel.out 1
    have hbox2 := ydv hbel.out 2
    simp at hbox hbox2
    by_cases hlt : k < p.rules.length
    ·obtain ⟨g, o, rfl, hg, hc⟩ := HRC.out (by omega)
     obtain ⟨x, hx⟩ : ∃ x, p.rules[k]? = some x := ⟨_, List.getElem?_eq_getElem hlt⟩
     obtain ⟨gv, sv, ht, hs, c0, c1, c2⟩ := hc k x hx
     have HT := Lib.hid ht
     have HS := Lib.hid hs
     obtain ⟨ga, gcap, rfl, _, _, _⟩ := ht.open
     obtain ⟨sa, scap, rfl, _, _, _⟩ := yhg hs
     rw [← hbw.cell (p := ⟨g, _, none⟩) hg] at c0 c1 c2
     have HGX : Hid (p.rules[k] = x) := (List.getElem?_eq_some_iff.1 hx).2
     have HXI := Lib.hid (HIN.out.2.2 x (List.mem_of_getElem? hx))
     have HXL := Lib.hid (HLR.out x (List.mem_of_getElem? hx))
     have HXM := Lib.hid (List.mem_of_getElem? hx)
     clear hc hx ht hs
     have hlt0 : w.heap.size < wr.heap.size := by omega
     have hne0 : w.heap.size ≠ wr.heap.size := by omega
     rcases Bool.eq_false_or_eq_true (yci x p.vars.length) with q1 | q1
     ·have HST := Lib.hid (yii (f := fun r : RuleD => yci r p.vars.length) k hlt hall.out (by rw [HGX.out]; exact q1))
      go_wp2_with fail
      refine (zdt _ _ x p.vars.length _ (by exact HT.out.below (hbw.alloc (by omega) _)) (by exact HS.out.below (hbw.alloc (by omega) _) fun _ _ => ymw.below (hbw.alloc (by omega) _)) HXI.out HXL.out (by omega)).mono ?_
      rintro e w2 ⟨rfl, hb2⟩
      go_wp2_with fail
      exact ⟨⟨k + 1, by omega, by go_num, HST, (hbel.out.alloc hbs _).trans (hb2.mono (by simp; omega))⟩, by simp [intOf]; omega⟩
     ·have H := Lib.hid (zdl HLIM.out qn HNUM.out (yih k hlt (by rw [HGX.out]; exact q1)))
      go_wp2_with fail
      refine (zdt _ _ x p.vars.length _ (by exact HT.out.below (hbw.alloc (by omega) _)) (by exact HS.out.below (hbw.alloc (by omega) _) fun _ _ => ymw.below (hbw.alloc (by omega) _)) HXI.out HXL.out (by omega)).mono ?_
      rintro e w2 ⟨rfl, hb2⟩
      go_wp2_with fail
      go_ret
      exact ⟨yak H.out.symm, (hbw.alloc (by omega) _).trans (hb2.mono (by simp; omega))⟩
    ·obtain rfl : k = p.rules.length := by omega
     have hform : p.rules.all (yci · p.vars.length) = true := ylg hall.out
     have HFORM := Lib.hid hform
     clear hform
     obtain ⟨wo2, rfl⟩ : ∃ wo2 : World, wo2 = wr := ⟨_, rfl⟩
     have hbox0 := ydv hbel.out 0
     simp at hbox0
     have HKL := Lib.hid (show (ycg p).length = p.vars.length by simp [ycg])
     go_wp2_with fail
     refine (kinds_any _ p _ (by exact HP.out.below hbw) (by omega)).mono ?_
     rintro e w3 ⟨kv, rfl, hkv, hb3⟩
     have HKV := Lib.hid hkv
     have hbel3 : Hid (Below (w.heap.size + 1) (w.alloc (.cells #[.string p.name, .slice a0 p.vars.length cap0, .slice a1 p.rules.length cap1] 25)) w3) := hbel.out.trans (hb3.mono hbs)
     clear hkv hbel hb3 hbw hbs hbox hbox2 hall hbox0
     have hbox2 := ydv hbel3.out 2
     simp at hbox2
     go_wp2_with fail
     clear hbox2
     go_loopw [9, 59] (fun _ i wr => ∃ k : Nat, k ≤ p.rules.length ∧ i = .int .i64 k ∧ Hid ((p.rules.take k).all (ygw · (ycg p)) = true) ∧ Hid (Below w3.heap.size w3 wr) ∧ Hid (Below (w.heap.size + 1) (w.alloc (.cells #[.string p.name, .slice a0 p.vars.length cap0, .slice a1 p.rules.length cap1] 25)) wr)) (fun _ i _ => p.rules.length - (intOf i).toNat)
     case atStart => exact ⟨0, by omega, rfl, rfl, Below.refl _ _, hbel3⟩
     case round =>
      clear hbel3
      obtain ⟨k, hk, rfl, hall, hb3, hbel⟩ := hrel
      have hbw := ybj hbel.out
      have hbs := ydh hbel.out
      by_cases hlt : k < p.rules.length
      ·obtain ⟨g, o, rfl, hg, hc⟩ := HRC.out (by omega)
       obtain ⟨x, hx⟩ : ∃ x, p.rules[k]? = some x := ⟨_, List.getElem?_eq_getElem hlt⟩
       obtain ⟨gv, sv, ht, hs, c0, c1, c2⟩ := hc k x hx
       have HT := Lib.hid ht
       have HS := Lib.hid hs
       obtain ⟨ga, gcap, rfl, _, _, _⟩ := ht.open
       obtain ⟨sa, scap, rfl, _, _, _⟩ := yhg hs
       rw [← hbw.cell (p := ⟨g, _, none⟩) hg] at c0 c1 c2
       have HGX : Hid (p.rules[k] = x) := (List.getElem?_eq_some_iff.1 hx).2
       have HXI := Lib.hid (HIN.out.2.2 x (List.mem_of_getElem? hx))
       have HXL := Lib.hid (HLR.out x (List.mem_of_getElem? hx))
       have HXM := Lib.hid (List.mem_of_getElem? hx)
       clear hc hx ht hs
       have HVAR := Lib.hid (formed_vars (n := p.vars.length) (List.all_eq_true.1 HFORM.out x HXM.out))
       rcases Bool.eq_false_or_eq_true (ygw x (ycg p)) with q1 | q1
       ·have HST := Lib.hid (yii (f := fun r : RuleD => ygw r (ycg p)) k hlt hall.out (by rw [HGX.out]; exact q1))
        go_wp2_with fail
        refine (zjz _ _ _ x (ycg p) _ (by exact HT.out.below (hbw.alloc (by omega) _)) (by exact HS.out.below (hbw.alloc (by omega) _) fun _ _ => ymw.below (hbw.alloc (by omega) _)) (by exact HKV.out.below (hb3.out.alloc hb3.out.size _)) HXL.out (by rw [HKL.out]; exact HVAR.out)).mono ?_
        rintro e w4 ⟨rfl, hb4⟩
        go_wp2_with fail
        exact ⟨⟨k + 1, by omega, by go_num, HST, (hb3.out.alloc hb3.out.size _).trans (hb4.mono (by have := hb3.out.size; simp; omega)), (hbel.out.alloc hbs _).trans (hb4.mono (by simp; omega))⟩, by simp [intOf]; omega⟩
       ·have H := Lib.hid (zdo HLIM.out qn HNUM.out HFORM.out (yih k hlt (by rw [HGX.out]; exact q1)))
        go_wp2_with fail
        refine (zjz _ _ _ x (ycg p) _ (by exact HT.out.below (hbw.alloc (by omega) _)) (by exact HS.out.below (hbw.alloc (by omega) _) fun _ _ => ymw.below (hbw.alloc (by omega) _)) (by exact HKV.out.below (hb3.out.alloc hb3.out.size _)) HXL.out (by rw [HKL.out]; exact HVAR.out)).mono ?_
        rintro e w4 ⟨rfl, hb4⟩
        go_wp2_with fail
        go_ret
        exact ⟨yak H.out.symm, (hbw.alloc (by omega) _).trans (hb4.mono (by simp; omega))⟩
      ·obtain rfl : k = p.rules.length := by omega
       have H := Lib.hid (zfh HLIM.out qn HNUM.out HFORM.out (ylg hall.out))
       go_wp2_with fail
       go_ret
       exact ⟨yak H.out.symm, hbw⟩
theorem validP_any (v : Value) (p : ProgD) (w : World) (hv : ygi w v p) (hin : yet p) (hlight : yne p) :
  Calls Tryz.prog 18 #[v] w fun e w' => e = .returned (.bool (ycn p == 0)) ∧ Below w.heap.size w w' := by
 have HP := Lib.hid hv
 have HIN := Lib.hid hin
 have HL := Lib.hid hlight
 obtain ⟨vv, rv, rfl, hvv, hrv⟩ := hv
 obtain ⟨a0, cap0, rfl, i1, i2, i3⟩ := hvv.open
 obtain ⟨a1, cap1, rfl, j1, j2, j3⟩ := hrv.open
 clear i3 j3 hvv hrv hin hlight
 go_enter Tryz.func18, Tryz.ntmps18
 go_wp2_with fail
 refine (zhp _ p _ (by exact zdj HP.out) HIN.out HL.out).mono ?_
 rintro e w1 ⟨rfl, hb1⟩
 go_wp2_with fail
 go_ret
 exact ⟨rfl, ybj (by simpa using hb1)⟩
set_option maxHeartbeats 16000000 in
theorem rcheck_any (v : Value) (p : ProgD) (w : World) (hv : ygi w v p) (hin : yet p) (hlight : yne p) :
  Calls Tryz.prog 33 #[v] w fun e w' => e = .returned (.int .i64 (ycn p)) ∧ Below w.heap.size w w' := by
 obtain ⟨hp1, hp2, hp3⟩ := hlight
 have HLR := Lib.hid hp3
 have HP := Lib.hid hv
 have HIN := Lib.hid hin
 obtain ⟨vv, rv, rfl, hvv, hrv⟩ := hv
 obtain ⟨a0, cap0, rfl, i1, i2, i3⟩ := hvv.open
 obtain ⟨a1, cap1, rfl, j1, j2, j3⟩ := hrv.open
 have HVC := Lib.hid i3
 have HRC := Lib.hid j3
 clear i3 j3 hvv hrv hp3 hin
 rcases Bool.eq_false_or_eq_true (ycw p.vars.length 1 6) with qw | qw
 rotate_left
 ·have H := Lib.hid (yli (p := p) (by simp [ycw] at qw; omega))
  go_enter Tryz.func33, Tryz.ntmps33
  go_wp2_with (go_at_call 65; refine (yha _ _ _ _).mono ?_; rintro e w2 ⟨rfl, rfl⟩)
  go_ret
  exact ⟨yak H.out.symm, (Below.refl _ _).alloc (Nat.le_refl _) _⟩
 have h0 : ¬ p.vars.length = 0 := by simp [ycw] at qw; omega
 have h6 : ¬ 6 < p.vars.length := by simp [ycw] at qw; omega
 by_cases h12 : 12 < p.rules.length
 ·have H := Lib.hid (yli (.inr (.inr h12)))
  go_enter Tryz.func33, Tryz.ntmps33
  go_wp2_with (go_at_call 65; refine (yha _ _ _ _).mono ?_; rintro e w2 ⟨rfl, rfl⟩)
  go_ret
  exact ⟨yak H.out.symm, (Below.refl _ _).alloc (Nat.le_refl _) _⟩
 have b12 : decide (12 < p.rules.length) = false := by simp; omega
 have b12' : decide (12 < (p.rules.length : Int)) = false := by simp; omega
 have HLIM := Lib.hid (show ¬ (p.vars.length = 0 ∨ 6 < p.vars.length ∨ 12 < p.rules.length) by omega)
 have HN0 := Lib.hid h0
 have h0' : 0 < p.vars.length := by omega
 clear h0
 rcases Bool.eq_false_or_eq_true (ydq p) with qn | qn
 rotate_left
 ·have H := Lib.hid (zdn HLIM.out qn)
  go_enter Tryz.func33, Tryz.ntmps33
  go_wp2_with (go_at_call 65; refine (yha _ _ _ _).mono ?_; rintro e w2 ⟨rfl, rfl⟩)
  refine (zei _ p _ (by exact zdj HP.out) HIN.out (by omega) (by omega)).mono ?_
  rintro e w1 ⟨rfl, hb1⟩
  go_wp2_with fail
  go_ret
  exact ⟨yak H.out.symm, ybj (by simpa using hb1)⟩
 go_enter Tryz.func33, Tryz.ntmps33
 go_wp2_with (go_at_call 65; refine (yha _ _ _ _).mono ?_; rintro e w2 ⟨rfl, rfl⟩)
 refine (zei _ p _ (by exact zdj HP.out) HIN.out (by omega) (by omega)).mono ?_
 rintro e w1 ⟨rfl, hb1'⟩
 have hb1 : Below (w.heap.size + 1) (w.alloc (.cells #[.string p.name, .slice a0 p.vars.length cap0, .slice a1 p.rules.length cap1] 25)) w1 := by simpa using hb1'
 have hbox := ydv hb1 1
 simp at hbox
 clear hb1'
 go_wp2_with fail
 clear hbox
 go_loopw [3] (fun i wr => ∃ k : Nat, k ≤ p.vars.length ∧ i = .int .i64 k ∧ Hid ((p.vars.take k).all ysx = true) ∧ Hid (Below (w.heap.size + 1) (w.alloc (.cells #[.string p.name, .slice a0 p.vars.length cap0, .slice a1 p.rules.length cap1] 25)) wr)) (fun i _ => p.vars.length - (intOf i).toNat)
 case atStart => exact ⟨0, by omega, rfl, rfl, hb1⟩
 case round =>
  clear hb1
  obtain ⟨k, hk, rfl, hall, hbel⟩ := hrel
  have hbw := ybj hbel.out
  have hbs := ydh hbel.out
  have hbox := ydv hbel.out 1
  have hbox2 := ydv hbel.out 2
  simp at hbox hbox2
  by_cases hlt : k < p.vars.length
  ·obtain ⟨g, o, rfl, hg, hc⟩ := HVC.out (by omega)
   obtain ⟨x, hx⟩ : ∃ x, p.vars[k]? = some x := ⟨_, List.getElem?_eq_getElem hlt⟩
   obtain ⟨c0, c1, c2, c3, c4, c5⟩ := hc k x hx
   rw [← hbw.cell (p := ⟨g, _, none⟩) hg] at c0 c1 c2 c3 c4 c5
   have HGX : Hid (p.vars[k] = x) := (List.getElem?_eq_some_iff.1 hx).2
   clear hc hx
   rcases Bool.eq_false_or_eq_true (ysx x) with q1 | q1
   ·have HST := Lib.hid (yii k hlt hall.out (by rw [HGX.out]; exact q1))
    go_wp2_with (go_at_call 67; refine (yyb x _).mono ?_; rintro e w2 ⟨rfl, hb2⟩)
    exact ⟨⟨k + 1, by omega, by go_num, HST, hbel.out.trans (hb2.mono hbs)⟩, by simp [intOf]; omega⟩
   ·have H := Lib.hid (zhq HLIM.out qn (yih k hlt (by rw [HGX.out]; exact q1)))
    go_wp2_with (go_at_call 67; refine (yyb x _).mono ?_; rintro e w2 ⟨rfl, hb2⟩)
    go_ret
    exact ⟨yak H.out.symm, yfm hbw hb2⟩
  ·obtain rfl : k = p.vars.length := by omega
   have hnum : p.vars.all ysx = true := ylg hall.out
   have HNUM := Lib.hid hnum
   clear hnum
   obtain ⟨wo, rfl⟩ : ∃ wo : World, wo = wr := ⟨_, rfl⟩
   go_wp2_with fail
   go_loopw [4] (fun i wr => ∃ k : Nat, k ≤ p.rules.length ∧ i = .int .i64 k ∧ Hid ((p.rules.take k).all (yci · p.vars.length) = true) ∧ Hid (Below (w.heap.size + 1) (w.alloc (.cells #[.string p.name, .slice a0 p.vars.length cap0, .slice a1 p.rules.length cap1] 25)) wr)) (fun i _ => p.rules.length - (intOf i).toNat)
   case atStart => exact ⟨0, by omega, rfl, rfl, hbel⟩
   case round =>
    clear hbel hbw hbs hbox hbox2 hall
    obtain ⟨k, hk, rfl, hall, hbel⟩ := hrel
    have hbw := ybj hbel.out
    have hbs := ydh hbel.out
    have hbox := ydv hbel.out 1
    have hbox2 := ydv hbel.out 2
    simp at hbox hbox2
    by_cases hlt : k < p.rules.length
    ·obtain ⟨g, o, rfl, hg, hc⟩ := HRC.out (by omega)
     obtain ⟨x, hx⟩ : ∃ x, p.rules[k]? = some x := ⟨_, List.getElem?_eq_getElem hlt⟩
     obtain ⟨gv, sv, ht, hs, c0, c1, c2⟩ := hc k x hx
     have HT := Lib.hid ht
     have HS := Lib.hid hs
     obtain ⟨ga, gcap, rfl, _, _, _⟩ := ht.open
     obtain ⟨sa, scap, rfl, _, _, _⟩ := yhg hs
     rw [← hbw.cell (p := ⟨g, _, none⟩) hg] at c0 c1 c2
     have HGX : Hid (p.rules[k] = x) := (List.getElem?_eq_some_iff.1 hx).2
     have HXI := Lib.hid (HIN.out.2.2 x (List.mem_of_getElem? hx))
     have HXL := Lib.hid (HLR.out x (List.mem_of_getElem? hx))
     have HXM := Lib.hid (List.mem_of_getElem? hx)
     clear hc hx ht hs
     have hlt0 : w.heap.size < wr.heap.size := by omega
     have hg2 : g < wr.heap.size := by omega
     have ik0 : (0 : Int) ≤ (k : Int) := by omega
     have ik1 : (k : Int) < (p.rules.length : Int) := by omega
     have SA : wr.cell? ⟨w.heap.size, 2, none⟩ = some (.slice (some ⟨g, o, none⟩) p.rules.length cap1) ∧ wr.cell? ⟨w.heap.size, 1, none⟩ = some (.slice a0 p.vars.length cap0) ∧ wr.cell? ⟨g, o + k * 3, none⟩ = some (.string x.name) ∧ wr.cell? ⟨g, o + k * 3 + 1, none⟩ = some (.slice ga x.guard.length gcap) ∧ wr.cell? ⟨g, o + k * 3 + 2, none⟩ = some (.slice sa x.sets.length scap) := ⟨hbox2, hbox, c0, c1, c2⟩
     rcases Bool.eq_false_or_eq_true (yci x p.vars.length) with q1 | q1
     ·have HST := Lib.hid (yii (f := fun r : RuleD => yci r p.vars.length) k hlt hall.out (by rw [HGX.out]; exact q1))
      go_wp2_with fail
      go_region_held3 (fun w' => w'.cell? ⟨w.heap.size, 2, none⟩ = some (.slice (some ⟨g, o, none⟩) p.rules.length cap1) ∧ w'.cell? ⟨w.heap.size, 1, none⟩ = some (.slice a0 p.vars.length cap0) ∧ w'.cell? ⟨g, o + k * 3, none⟩ = some (.string x.name) ∧ w'.cell? ⟨g, o + k * 3 + 1, none⟩ = some (.slice ga x.guard.length gcap) ∧ w'.cell? ⟨g, o + k * 3 + 2, none⟩ = some (.slice sa x.sets.length scap)) (first | exact SB | exact SA)
       (first | (go_at_call 68; refine (zbz _ _ x p.vars.length _ (by exact HT.out.below hbw.drew) (by exact HS.out.below hbw.drew fun _ _ => ymw.below hbw.drew) HXI.out HXL.out (by omega)).mono ?_; rintro e w2 ⟨rfl, hb2⟩; have SB : w2.cell? ⟨w.heap.size, 2, none⟩ = some (.slice (some ⟨g, o, none⟩) p.rules.length cap1) ∧ w2.cell? ⟨w.heap.size, 1, none⟩ = some (.slice a0 p.vars.length cap0) ∧ w2.cell? ⟨g, o + k * 3, none⟩ = some (.string x.name) ∧ w2.cell? ⟨g, o + k * 3 + 1, none⟩ = some (.slice ga x.guard.length gcap) ∧ w2.cell? ⟨g, o + k * 3 + 2, none⟩ = some (.slice sa x.sets.length scap) := ⟨(hb2.cell (p := ⟨_, _, none⟩) hlt0).trans hbox2, (hb2.cell (p := ⟨_, _, none⟩) hlt0).trans hbox, (hb2.cell (p := ⟨_, _, none⟩) hg2).trans c0, (hb2.cell (p := ⟨_, _, none⟩) hg2).trans c1, (hb2.cell (p := ⟨_, _, none⟩) hg2).trans c2⟩))
      go_wp2_with fail
      exact ⟨⟨k + 1, by omega, by go_num, HST, hbel.out.drew.trans (hb2.mono (by simpa using hbs))⟩, by simp [intOf]; omega⟩
     ·have H := Lib.hid (zdl HLIM.out qn HNUM.out (yih k hlt (by rw [HGX.out]; exact q1)))
      go_wp2_with fail
      go_region_held3 (fun w' => w'.cell? ⟨w.heap.size, 2, none⟩ = some (.slice (some ⟨g, o, none⟩) p.rules.length cap1) ∧ w'.cell? ⟨w.heap.size, 1, none⟩ = some (.slice a0 p.vars.length cap0) ∧ w'.cell? ⟨g, o + k * 3, none⟩ = some (.string x.name) ∧ w'.cell? ⟨g, o + k * 3 + 1, none⟩ = some (.slice ga x.guard.length gcap) ∧ w'.cell? ⟨g, o + k * 3 + 2, none⟩ = some (.slice sa x.sets.length scap)) (first | exact SB | exact SA)
       (first | (go_at_call 68; refine (zbz _ _ x p.vars.length _ (by exact HT.out.below hbw.drew) (by exact HS.out.below hbw.drew fun _ _ => ymw.below hbw.drew) HXI.out HXL.out (by omega)).mono ?_; rintro e w2 ⟨rfl, hb2⟩; have SB : w2.cell? ⟨w.heap.size, 2, none⟩ = some (.slice (some ⟨g, o, none⟩) p.rules.length cap1) ∧ w2.cell? ⟨w.heap.size, 1, none⟩ = some (.slice a0 p.vars.length cap0) ∧ w2.cell? ⟨g, o + k * 3, none⟩ = some (.string x.name) ∧ w2.cell? ⟨g, o + k * 3 + 1, none⟩ = some (.slice ga x.guard.length gcap) ∧ w2.cell? ⟨g, o + k * 3 + 2, none⟩ = some (.slice sa x.sets.length scap) := ⟨(hb2.cell (p := ⟨_, _, none⟩) hlt0).trans hbox2, (hb2.cell (p := ⟨_, _, none⟩) hlt0).trans hbox, (hb2.cell (p := ⟨_, _, none⟩) hg2).trans c0, (hb2.cell (p := ⟨_, _, none⟩) hg2).trans c1, (hb2.cell (p := ⟨_, _, none⟩) hg2).trans c2⟩))
      go_wp2_with fail
      go_ret
      exact ⟨yak H.out.symm, yfm hbw.drew hb2⟩
    ·obtain rfl : k = p.rules.length := by omega
     have hform : p.rules.all (yci · p.vars.length) = true := ylg hall.out
     have HFORM := Lib.hid hform
     clear hform
     obtain ⟨wo2, rfl⟩ : ∃ wo2 : World, wo2 = wr := ⟨_, rfl⟩
     have hbox0 := ydv hbel.out 0
     simp at hbox0
     have HKL := Lib.hid (show (ycg p).length = p.vars.length by simp [ycg])
     go_wp2_with fail
     go_loopw [5] (fun i wr => ∃ k : Nat, k ≤ p.rules.length ∧ i = .int .i64 k ∧ Hid ((p.rules.take k).all (ygw · (ycg p)) = true) ∧ Hid (Below (w.heap.size + 1) (w.alloc (.cells #[.string p.name, .slice a0 p.vars.length cap0, .slice a1 p.rules.length cap1] 25)) wr)) (fun i _ => p.rules.length - (intOf i).toNat)
     case atStart => exact ⟨0, by omega, rfl, rfl, hbel⟩
     case round =>
      clear hbel hbw hbs hbox hbox2 hall hbox0
      obtain ⟨k, hk, rfl, hall, hbel⟩ := hrel
      have hbw := ybj hbel.out
      have hbs := ydh hbel.out
      have hbox0 := ydv hbel.out 0
      have hbox := ydv hbel.out 1
      have hbox2 := ydv hbel.out 2
      simp at hbox hbox2 hbox0
      by_cases hlt : k < p.rules.length
      ·obtain ⟨g, o, rfl, hg, hc⟩ := HRC.out (by omega)
       obtain ⟨x, hx⟩ : ∃ x, p.rules[k]? = some x := ⟨_, List.getElem?_eq_getElem hlt⟩
       obtain ⟨gv, sv, ht, hs, c0, c1, c2⟩ := hc k x hx
       have HT := Lib.hid ht
       have HS := Lib.hid hs
       obtain ⟨ga, gcap, rfl, _, _, _⟩ := ht.open
       obtain ⟨sa, scap, rfl, _, _, _⟩ := yhg hs
       rw [← hbw.cell (p := ⟨g, _, none⟩) hg] at c0 c1 c2
       have HGX : Hid (p.rules[k] = x) := (List.getElem?_eq_some_iff.1 hx).2
       have HXI := Lib.hid (HIN.out.2.2 x (List.mem_of_getElem? hx))
       have HXL := Lib.hid (HLR.out x (List.mem_of_getElem? hx))
       have HXM := Lib.hid (List.mem_of_getElem? hx)
       clear hc hx ht hs
       have HFX := Lib.hid (List.all_eq_true.1 HFORM.out x HXM.out)
       have hlt0 : w.heap.size < wr.heap.size := by omega
       have hg2 : g < wr.heap.size := by omega
       have ik0 : (0 : Int) ≤ (k : Int) := by omega
       have ik1 : (k : Int) < (p.rules.length : Int) := by omega
       have SA : wr.cell? ⟨w.heap.size, 2, none⟩ = some (.slice (some ⟨g, o, none⟩) p.rules.length cap1) ∧ wr.cell? ⟨w.heap.size, 1, none⟩ = some (.slice a0 p.vars.length cap0) ∧ wr.cell? ⟨w.heap.size, 0, none⟩ = some (.string p.name) ∧ wr.cell? ⟨g, o + k * 3, none⟩ = some (.string x.name) ∧ wr.cell? ⟨g, o + k * 3 + 1, none⟩ = some (.slice ga x.guard.length gcap) ∧ wr.cell? ⟨g, o + k * 3 + 2, none⟩ = some (.slice sa x.sets.length scap) := ⟨hbox2, hbox, hbox0, c0, c1, c2⟩
       rcases Bool.eq_false_or_eq_true (ygw x (ycg p)) with q1 | q1
       ·have HST := Lib.hid (yii (f := fun r : RuleD => ygw r (ycg p)) k hlt hall.out (by rw [HGX.out]; exact q1))
        go_wp2_with fail
        go_region_held3 (fun w' => w'.cell? ⟨w.heap.size, 2, none⟩ = some (.slice (some ⟨g, o, none⟩) p.rules.length cap1) ∧ w'.cell? ⟨w.heap.size, 1, none⟩ = some (.slice a0 p.vars.length cap0) ∧ w'.cell? ⟨w.heap.size, 0, none⟩ = some (.string p.name) ∧ w'.cell? ⟨g, o + k * 3, none⟩ = some (.string x.name) ∧ w'.cell? ⟨g, o + k * 3 + 1, none⟩ = some (.slice ga x.guard.length gcap) ∧ w'.cell? ⟨g, o + k * 3 + 2, none⟩ = some (.slice sa x.sets.length scap)) (first | exact SB | exact SC | exact SA)
         (first | (go_at_call 69; refine (zej _ _ _ x (ycg p) _ (by exact HT.out.below (yfm hbw.drew hb3)) (by exact HS.out.below (yfm hbw.drew hb3) fun _ _ => ymw.below (yfm hbw.drew hb3)) HKV.out HXL.out (by rw [HKL.out]; omega) (yxt HNUM.out) (by rw [HKL.out]; exact HFX.out)).mono ?_; rintro e w4 ⟨rfl, hb4⟩; have SB : w4.cell? ⟨w.heap.size, 2, none⟩ = some (.slice (some ⟨g, o, none⟩) p.rules.length cap1) ∧ w4.cell? ⟨w.heap.size, 1, none⟩ = some (.slice a0 p.vars.length cap0) ∧ w4.cell? ⟨w.heap.size, 0, none⟩ = some (.string p.name) ∧ w4.cell? ⟨g, o + k * 3, none⟩ = some (.string x.name) ∧ w4.cell? ⟨g, o + k * 3 + 1, none⟩ = some (.slice ga x.guard.length gcap) ∧ w4.cell? ⟨g, o + k * 3 + 2, none⟩ = some (.slice sa x.sets.length scap) := ⟨((yfm hb3 hb4).cell (p := ⟨_, _, none⟩) hlt0).trans hbox2, ((yfm hb3 hb4).cell (p := ⟨_, _, none⟩) hlt0).trans hbox, ((yfm hb3 hb4).cell (p := ⟨_, _, none⟩) hlt0).trans hbox0, ((yfm hb3 hb4).cell (p := ⟨_, _, none⟩) hg2).trans c0, ((yfm hb3 hb4).cell (p := ⟨_, _, none⟩) hg2).trans c1, ((yfm hb3 hb4).cell (p := ⟨_, _, none⟩) hg2).trans c2⟩) | (go_at_call 70; refine (zeh _ p _ (by exact HP.out.below hbw.drew) (by omega)).mono ?_; rintro e w3 ⟨kv, rfl, hkv, hb3⟩; have HKV := Lib.hid hkv; clear hkv; have SC : w3.cell? ⟨w.heap.size, 2, none⟩ = some (.slice (some ⟨g, o, none⟩) p.rules.length cap1) ∧ w3.cell? ⟨w.heap.size, 1, none⟩ = some (.slice a0 p.vars.length cap0) ∧ w3.cell? ⟨w.heap.size, 0, none⟩ = some (.string p.name) ∧ w3.cell? ⟨g, o + k * 3, none⟩ = some (.string x.name) ∧ w3.cell? ⟨g, o + k * 3 + 1, none⟩ = some (.slice ga x.guard.length gcap) ∧ w3.cell? ⟨g, o + k * 3 + 2, none⟩ = some (.slice sa x.sets.length scap) := ⟨(hb3.cell (p := ⟨_, _, none⟩) hlt0).trans hbox2, (hb3.cell (p := ⟨_, _, none⟩) hlt0).trans hbox, (hb3.cell (p := ⟨_, _, none⟩) hlt0).trans hbox0, (hb3.cell (p := ⟨_, _, none⟩) hg2).trans c0, (hb3.cell (p := ⟨_, _, none⟩) hg2).trans c1, (hb3.cell (p := ⟨_, _, none⟩) hg2).trans c2⟩))
        go_wp2_with fail
        exact ⟨⟨k + 1, by omega, by go_num, HST, hbel.out.drew.trans ((yfm hb3 hb4).mono (by simpa using hbs))⟩, by simp [intOf]; omega⟩
       ·have H := Lib.hid (zdo HLIM.out qn HNUM.out HFORM.out (yih k hlt (by rw [HGX.out]; exact q1)))
        go_wp2_with fail
        go_region_held3 (fun w' => w'.cell? ⟨w.heap.size, 2, none⟩ = some (.slice (some ⟨g, o, none⟩) p.rules.length cap1) ∧ w'.cell? ⟨w.heap.size, 1, none⟩ = some (.slice a0 p.vars.length cap0) ∧ w'.cell? ⟨w.heap.size, 0, none⟩ = some (.string p.name) ∧ w'.cell? ⟨g, o + k * 3, none⟩ = some (.string x.name) ∧ w'.cell? ⟨g, o + k * 3 + 1, none⟩ = some (.slice ga x.guard.length gcap) ∧ w'.cell? ⟨g, o + k * 3 + 2, none⟩ = some (.slice sa x.sets.length scap)) (first | exact SB | exact SC | exact SA)
         (first | (go_at_call 69; refine (zej _ _ _ x (ycg p) _ (by exact HT.out.below (yfm hbw.drew hb3)) (by exact HS.out.below (yfm hbw.drew hb3) fun _ _ => ymw.below (yfm hbw.drew hb3)) HKV.out HXL.out (by rw [HKL.out]; omega) (yxt HNUM.out) (by rw [HKL.out]; exact HFX.out)).mono ?_; rintro e w4 ⟨rfl, hb4⟩; have SB : w4.cell? ⟨w.heap.size, 2, none⟩ = some (.slice (some ⟨g, o, none⟩) p.rules.length cap1) ∧ w4.cell? ⟨w.heap.size, 1, none⟩ = some (.slice a0 p.vars.length cap0) ∧ w4.cell? ⟨w.heap.size, 0, none⟩ = some (.string p.name) ∧ w4.cell? ⟨g, o + k * 3, none⟩ = some (.string x.name) ∧ w4.cell? ⟨g, o + k * 3 + 1, none⟩ = some (.slice ga x.guard.length gcap) ∧ w4.cell? ⟨g, o + k * 3 + 2, none⟩ = some (.slice sa x.sets.length scap) := ⟨((yfm hb3 hb4).cell (p := ⟨_, _, none⟩) hlt0).trans hbox2, ((yfm hb3 hb4).cell (p := ⟨_, _, none⟩) hlt0).trans hbox, ((yfm hb3 hb4).cell (p := ⟨_, _, none⟩) hlt0).trans hbox0, ((yfm hb3 hb4).cell (p := ⟨_, _, none⟩) hg2).trans c0, ((yfm hb3 hb4).cell (p := ⟨_, _, none⟩) hg2).trans c1, ((yfm hb3 hb4).cell (p := ⟨_, _, none⟩) hg2).trans c2⟩) | (go_at_call 70; refine (zeh _ p _ (by exact HP.out.below hbw.drew) (by omega)).mono ?_; rintro e w3 ⟨kv, rfl, hkv, hb3⟩; have HKV := Lib.hid hkv; clear hkv; have SC : w3.cell? ⟨w.heap.size, 2, none⟩ = some (.slice (some ⟨g, o, none⟩) p.rules.length cap1) ∧ w3.cell? ⟨w.heap.size, 1, none⟩ = some (.slice a0 p.vars.length cap0) ∧ w3.cell? ⟨w.heap.size, 0, none⟩ = some (.string p.name) ∧ w3.cell? ⟨g, o + k * 3, none⟩ = some (.string x.name) ∧ w3.cell? ⟨g, o + k * 3 + 1, none⟩ = some (.slice ga x.guard.length gcap) ∧ w3.cell? ⟨g, o + k * 3 + 2, none⟩ = some (.slice sa x.sets.length scap) := ⟨(hb3.cell (p := ⟨_, _, none⟩) hlt0).trans hbox2, (hb3.cell (p := ⟨_, _, none⟩) hlt0).trans hbox, (hb3.cell (p := ⟨_, _, none⟩) hlt0).trans hbox0, (hb3.cell (p := ⟨_, _, none⟩) hg2).trans c0, (hb3.cell (p := ⟨_, _, none⟩) hg2).trans c1, (hb3.cell (p := ⟨_, _, none⟩) hg2).trans c2⟩))
        go_wp2_with fail
        go_ret
        exact ⟨yak H.out.symm, yfm hbw.drew (yfm hb3 hb4)⟩
      ·obtain rfl : k = p.rules.length := by omega
       have H := Lib.hid (zfh HLIM.out qn HNUM.out HFORM.out (ylg hall.out))
       go_wp2_with fail
       go_ret
       exact ⟨yak H.out.symm, hbw⟩
theorem rvalidP_any (v : Value) (p : ProgD) (w : World) (hv : ygi w v p) (hin : yet p) (hlight : yne p) :
  Calls Tryz.prog 16 #[v] w fun e w' => e = .returned (.bool (ycn p == 0)) ∧ Below w.heap.size w w' := by
 have HP := Lib.hid hv
 have HIN := Lib.hid hin
 have HL := Lib.hid hlight
 obtain ⟨vv, rv, rfl, hvv, hrv⟩ := hv
 obtain ⟨a0, cap0, rfl, i1, i2, i3⟩ := hvv.open
 obtain ⟨a1, cap1, rfl, j1, j2, j3⟩ := hrv.open
 clear i3 j3 hvv hrv hin hlight
 go_enter Tryz.func16, Tryz.ntmps16
 go_wp2_with fail
 refine (rcheck_any _ p _ (by exact zdj HP.out) HIN.out HL.out).mono ?_
 rintro e w1 ⟨rfl, hb1⟩
 go_wp2_with fail
 go_ret
 exact ⟨rfl, ybj (by simpa using hb1)⟩
end
section
open Go.RowKit
structure GoodP (p : ProgD) : Prop where
 lim : ¬ (p.vars.length = 0 ∨ 6 < p.vars.length ∨ 12 < p.rules.length)
 name : yie p.name = true
 vnames : yfk (p.vars.map (·.name)) = true
 rnames : yfk (p.rules.map (·.name)) = true
 num : p.vars.all ysx = true
 form : p.rules.all (yci · p.vars.length) = true
 type : p.rules.all (ygw · (ycg p)) = true
theorem zdm {p : ProgD} (h : ycn p = 0) : GoodP p := by
 unfold ycn at h
 split at h
 ·omega
 split at h
 ·omega
 split at h
 ·omega
 split at h
 ·omega
 split at h
 ·omega
 rename_i h1 h2 h3 h4 h5
 have h2' : ydq p = true := by simpa using h2
 unfold ydq at h2'
 simp only [Bool.and_eq_true] at h2'
 exact ⟨h1, h2'.1, h2'.2.1, h2'.2.2, by simpa using h3, by simpa using h4, by simpa using h5⟩
theorem GoodP.check {p : ProgD} (h : GoodP p) : ycn p = 0 := by
 have hn : ydq p = true := by unfold ydq; rw [h.name, h.vnames, h.rnames]; rfl
 exact zfh h.lim hn h.num h.form h.type
theorem check_rules {p : ProgD} (h : GoodP p) (rs : List RuleD) (hl : rs.length ≤ 12) (hm : ∀ r ∈ rs, r ∈ p.rules) (hn : ((rs.map (·.name)).map yom).Nodup) : ycn { p with rules := rs } = 0 := by
 apply GoodP.check
 have hall : ∀ (f : RuleD → Bool), p.rules.all f = true → rs.all f = true := fun f hf => List.all_eq_true.2 fun r hr => List.all_eq_true.1 hf r (hm r hr)
 refine ⟨?_, h.name, h.vnames, ?_, h.num, hall _ h.form, hall _ h.type⟩
 ·have := h.lim; show ¬ (p.vars.length = 0 ∨ 6 < p.vars.length ∨ 12 < rs.length); omega
 ·have h2 := h.rnames
  unfold yfk at *
  rw [Bool.and_eq_true] at *
  refine ⟨?_, by simpa using hn⟩
  have := hall (fun r => yie r.name) (by have := h2.1; rw [List.all_map] at this; exact this)
  rw [List.all_map]; exact this
theorem names_nodup {p : ProgD} (h : GoodP p) : ((p.rules.map (·.name)).map yom).Nodup := by
 have h2 := h.rnames
 unfold yfk at h2
 rw [Bool.and_eq_true, decide_eq_true_eq] at h2
 exact h2.2
theorem check_erase {p : ProgD} (h : ycn p = 0) (i : Nat) : ycn { p with rules := p.rules.take i ++ p.rules.drop (i + 1) } = 0 := by
 have hg := zdm h
 have hs : (p.rules.take i ++ p.rules.drop (i + 1)).Sublist p.rules := by
  rw [← List.eraseIdx_eq_take_drop_succ]; exact List.eraseIdx_sublist _ _
 refine check_rules hg _ ?_ (fun r hr => hs.subset hr) ?_
 ·have := hs.length_le; have := hg.lim; omega
 ·exact List.Sublist.nodup ((hs.map _).map _) (names_nodup hg)
end
section
open Go.RowKit
def zdg (b : List UInt8) : Prop := (∃ c r, b = c :: r ∧ yix c = true) ∧ (∀ x, ycr false (b ++ x) = b.length + ycr false x) ∧ b.length ≤ 16
def ylt (s : ByteArray) (t : Tok) : List UInt8 := (yad s t.from_).take (t.to - t.from_)
def yfu (s : ByteArray) (b : Nat → List UInt8) : Nat → List Tok → List UInt8
 | _, [] => []
 | i, t :: ts => ylt s t ++ (b i ++ yfu s b (i + 1) ts)
def zda (b : Nat → List UInt8) : Nat → Nat → List Tok → List Tok
 | _, _, [] => []
 | i, p, t :: ts => ⟨t.kind, p, p + (t.to - t.from_), t.num⟩ :: zda b (i + 1) (p + (t.to - t.from_) + (b i).length) ts
theorem yxs (b : Nat → List UInt8) (ts : List Tok) : ∀ i p, (zda b i p ts).length = ts.length := by
 induction ts with
 | nil => intro i p; rfl
 | cons t ts ih => intro i p; simp only [zda, List.length_cons, ih]
def zhc (s : ByteArray) (t : Tok) : Prop := t.from_ < s.size ∧ yms (yad s t.from_) = .ok (t.kind, t.to - t.from_, t.num) ∧ t.from_ < t.to ∧ t.to ≤ s.size ∧ ycr false (yad s t.from_) = 0
theorem ync (s : ByteArray) (t : Tok) (h : zhc s t) : (ylt s t).length = t.to - t.from_ := by
 obtain ⟨h1, h2, h3, h4, h5⟩ := h
 unfold ylt; rw [List.length_take, ycb]; omega
theorem tokText_head (s : ByteArray) (t : Tok) (h : zhc s t) : ∃ c r, ylt s t = c :: r ∧ ∀ y, ycr false (c :: y) = 0 := by
 obtain ⟨h1, h2, h3, h4, h5⟩ := h
 unfold ylt
 rw [ybm s t.from_ h1] at *
 obtain ⟨m, hm⟩ : ∃ m, t.to - t.from_ = m + 1 := ⟨t.to - t.from_ - 1, by omega⟩
 rw [hm, List.take_succ_cons]
 exact ⟨_, _, rfl, skip_zero h5⟩
theorem scan_join (s : ByteArray) (b : Nat → List UInt8) (hb : ∀ i, zdg (b i)) (ts : List Tok) : (∀ t ∈ ts, zhc s t) → ∀ (left p i : Nat) (pre : List UInt8), ts.length ≤ left →
  (∀ x, ycr false (pre ++ x) = pre.length + ycr false x) → yjm left p (pre ++ yfu s b i ts) = .ok (zda b i (p + pre.length) ts) := by
 induction ts with
 | nil =>
  intro _ left p i pre _ hpre
  have h1 : (pre ++ yfu s b i []).drop (ycr false (pre ++ yfu s b i [])) = [] := by
   rw [hpre]; simp [yfu, ycr]
  cases left <;> rw [yjm, if_pos h1] <;> rfl
 | cons t ts ih =>
  intro hall left p i pre hle hpre
  have ht := hall t (List.mem_cons_self ..)
  obtain ⟨c, r, hcr, h0⟩ := tokText_head s t ht
  obtain ⟨⟨c', r', hb1, hb2⟩, hb3, _⟩ := hb i
  have hlen := ync s t ht
  obtain ⟨left, rfl⟩ : ∃ m, left = m + 1 := ⟨left - 1, by simp at hle; omega⟩
  have hsk : ycr false (pre ++ yfu s b i (t :: ts)) = pre.length := by
   rw [hpre]
   simp only [yfu, hcr, List.cons_append, h0, Nat.add_zero]
  have hdr : (pre ++ yfu s b i (t :: ts)).drop pre.length = yfu s b i (t :: ts) := by simp
  have hne : yfu s b i (t :: ts) ≠ [] := by simp [yfu, hcr]
  have htk : yms (yfu s b i (t :: ts)) = .ok (t.kind, t.to - t.from_, t.num) := by
   simp only [yfu, hb1, List.cons_append]
   rw [tok_app _ _ _ hb2 (by rw [hcr]; simp)]
   exact tok_take _ _ _ _ _ ht.2.1 (Nat.le_refl _)
  have hd2 : (yfu s b i (t :: ts)).drop (t.to - t.from_) = b i ++ yfu s b (i + 1) ts := by
   simp only [yfu]
   rw [← hlen]; simp
  rw [yjm, hsk, hdr, if_neg hne, htk]
  simp only
  rw [hd2, ih (fun t h => hall t (List.mem_cons_of_mem _ h)) left _ (i + 1) (b i) (by simp at hle; omega) hb3]
  rfl
theorem join_len (s : ByteArray) (b : Nat → List UInt8) (hb : ∀ i, zdg (b i)) : ∀ (ts : List Tok) (p i : Nat), zlk s p ts → (yfu s b i ts).length + p ≤ s.size + 16 * ts.length := by
 intro ts
 induction ts with
 | nil => intro p i h; have := h.1; simp [yfu]; omega
 | cons t ts ih =>
  intro p i h
  have h1 := ih t.to (i + 1) h.tail
  have h2 := ync s t (h.mem t (List.mem_cons_self ..))
  have h3 := (hb i).2.2
  obtain ⟨g1, g2, g3, _, g5, g6, _⟩ := h
  have h4 := (yis s false p g1).1
  simp only [yfu, List.length_append, List.length_cons, h2]
  omega
theorem join_text (s : ByteArray) (b : Nat → List UInt8) (ts : List Tok) : (∀ t ∈ ts, zhc s t) → ∀ (i : Nat) (L : List UInt8) (j : Nat) (u t : Tok), (zda b i L.length ts)[j]? = some u → ts[j]? = some t →
  u.kind = t.kind ∧ u.num = t.num ∧ u.from_ ≤ u.to ∧ u.to ≤ (L ++ yfu s b i ts).length ∧ ((L ++ yfu s b i ts).drop u.from_).take (u.to - u.from_) = ylt s t := by
 induction ts with
 | nil => intro _ i L j u t _ h; simp at h
 | cons x ts ih =>
  intro hall i L j u t hu ht
  have hx := hall x (List.mem_cons_self ..)
  have hlen := ync s x hx
  cases j with
  | zero =>
   simp only [zda, List.getElem?_cons_zero, Option.some.injEq] at hu ht
   subst hu ht
   refine ⟨rfl, rfl, by show L.length ≤ L.length + (x.to - x.from_); omega, ?_, ?_⟩
   ·show L.length + (x.to - x.from_) ≤ _
    rw [List.length_append]; simp only [yfu]; rw [List.length_append, hlen]; omega
   ·show ((L ++ yfu s b i (x :: ts)).drop L.length).take (L.length + (x.to - x.from_) - L.length) = _
    rw [List.drop_append_of_le_length (Nat.le_refl _), List.drop_length, List.nil_append, Nat.add_sub_cancel_left, ← hlen]
    simp only [yfu]
    rw [List.take_append_of_le_length (Nat.le_refl _), List.take_length]
  | succ j =>
   simp only [zda, List.getElem?_cons_succ] at hu ht
   have h1 := ih (fun t h => hall t (List.mem_cons_of_mem _ h)) (i + 1) (L ++ ylt s x ++ b i) j u t (by rw [List.length_append, List.length_append, hlen]; exact hu) ht
   simp only [List.append_assoc] at h1
   simp only [yfu]
   exact h1
theorem zmo {s : ByteArray} {p : Nat} {ts : List Tok} (h : zlk s p ts) : ∀ t ∈ ts, zhc s t := fun t ht => h.mem t ht
theorem scanF_join (s o : ByteArray) (b : Nat → List UInt8) (hb : ∀ i, zdg (b i)) (ts : List Tok) (hg : zlk s 0 ts) (ho : yad o 0 = yfu s b 0 ts) (hs : o.size ≤ 16384) (hl : ts.length ≤ 4096) : yfr o = .ok (zda b 0 0 ts) := by
 unfold yfr
 rw [if_neg (by omega), ho]
 exact scan_join s b hb ts (zmo hg) 4096 0 0 [] hl (fun x => by simp)
end
section
theorem yqo {w : Bs} (h : ydo w) : (10 : UInt8) ∉ w := fun hm => by have := h.2.1 _ hm; revert this; decide
theorem zsn : ∀ w ∈ zkn, (10 : UInt8) ∉ w := by decide
theorem dec_nl (n : Nat) : (10 : UInt8) ∉ dec n := zpr n (by decide)
theorem wr_nl {names : List Bs} (hn : ∀ w ∈ names, ydo w) {l : Nat} {E : Ex} {x : Bs} {ws : List PW} (h : Wr names l E x ws) : (10 : UInt8) ∉ x := by
 induction h with
 | down hl h ih => exact ih
 | @paren E x ws h ih => simp [ih]
 | @choice a b c xa xb xc wa wb wc ha hb hc iha ihb ihc => simp [iha, ihb, ihc]
 | @bin op l w a b xa xb wa wb h0 hw hl h3 ha hb iha ihb => simp [iha, ihb, zsn w hw]
 | @cmp op w a b xa xb wa wb h0 hw hl ha hb iha ihb => simp [iha, ihb, zsn w hw]
 | @neg a xa wa ha iha => simp [iha]
 | @not a xa wa ha iha => simp [iha]
 | @agg op w a xa wa h0 hw ha iha => simp [iha, yqo (zsi w hw)]
 | @num n hn => exact dec_nl n
 | @own i w h => exact yqo (hn w (List.mem_of_getElem? h))
 | @near i w h => simp [yqo (hn w (List.mem_of_getElem? h))]
 | here => simp
 | @const op w h0 hw hne => exact yqo (zmc w hw hne)
 | @field op w h0 hw => simp [yqo (zmj w hw)]
theorem zpy {names : List Bs} (hg : ∀ w ∈ names, ydo w) {e : List Tm} {v : Int} (hv : yco e v = true) (hnv : v = names.length) : (10 : UInt8) ∉ yem false names e := by
 subst hnv
 obtain ⟨E, h1, h2, rfl, h3, h4⟩ := yla hv
 rw [yem, h1]
 exact wr_nl hg (ymy (names := names) false E h2 h4)
theorem zte {names : List Bs} (hg : ∀ w ∈ names, ydo w) {s : SetD} (h : SetOkP names s) : (10 : UInt8) ∉ zdb names s := by
 have h1 := zpy hg h.val rfl
 have hw : (10 : UInt8) ∉ yfn names s.var := by
  have hv := h.var
  obtain ⟨w, hw⟩ : ∃ w, names[s.var.toNat]? = some w := ⟨_, List.getElem?_eq_getElem (by omega)⟩
  rw [yfn, hw]
  exact yqo (hg w (List.mem_of_getElem? hw))
 simp [zdb, h1, hw]
theorem zrf {names : List Bs} (hg : ∀ w ∈ names, ydo w) : ∀ {l : List SetD}, (∀ s ∈ l, SetOkP names s) → (10 : UInt8) ∉ yiw names l
 | [], _ => by simp [yiw]
 | [s], h => zte hg (h s (by simp))
 | s :: s2 :: l, h => by
  have h1 := zrf hg (l := s2 :: l) (fun y hy => h y (by simp only [List.mem_cons] at hy ⊢; exact .inr hy))
  have h2 := zte hg (h s (by simp))
  simp only [yiw, List.mem_append, List.mem_cons, not_or]
  exact ⟨h2, by decide, by decide, h1⟩
def zov (names : List Bs) (r : RuleD) : Bs := ykk ++ (32 :: (bl r.name ++ (58 :: 32 :: (yem false names r.guard ++ (32 :: 45 :: 62 :: 32 :: (yiw names r.sets ++ [59]))))))
theorem zjk (names : List Bs) (r : RuleD) : ynw names r = zov names r ++ [10] := by simp [ynw, zov]
theorem rule_nl {names : List Bs} (hg : ∀ w ∈ names, ydo w) {r : RuleD} (h : RuleOkP names r) : (10 : UInt8) ∉ zov names r := by
 obtain ⟨_, _, k1, _⟩ := zop
 simp only [zov, List.mem_append, List.mem_cons, not_or, List.not_mem_nil, not_false_eq_true, and_true]
 exact ⟨yqo k1, by decide, yqo h.name, by decide, by decide, zpy hg h.guard rfl, by decide, by decide, by decide, by decide, zrf hg h.sets, by decide⟩
def yfj (p : ProgD) : ProgD := { p with rules := p.rules.take (p.rules.length - 1) }
theorem zaj {p : ProgD} (h : ycn p = 0) : ycn (yfj p) = 0 := by
 have h1 := check_erase h (p.rules.length - 1)
 rcases Nat.eq_zero_or_pos p.rules.length with h0 | h0
 ·have e : p.rules = [] := List.eq_nil_of_length_eq_zero h0
  simpa [yfj, e] using h1
 ·rw [show p.rules.length - 1 + 1 = p.rules.length by omega, List.drop_length, List.append_nil] at h1
  exact h1
theorem zdq {p : ProgD} (h : 0 < p.rules.length) : ∃ u, p.rules[p.rules.length - 1]? = some u ∧ yer p = yer (yfj p) ++ ynw (yap p) u ∧ yup p = yup (yfj p) ++ yop (yap p) u := by
 have hlt : p.rules.length - 1 < p.rules.length := by omega
 refine ⟨p.rules[p.rules.length - 1], List.getElem?_eq_getElem hlt, ?_, ?_⟩
 all_goals
  have e : p.rules = p.rules.take (p.rules.length - 1) ++ [p.rules[p.rules.length - 1]] := by
   conv => lhs; rw [← List.take_append_drop (p.rules.length - 1) p.rules]
   rw [List.drop_eq_getElem_cons hlt, show p.rules.length - 1 + 1 = p.rules.length by omega, List.drop_length]
 ·have e2 : p.rules.flatMap (ynw (yap p)) = (p.rules.take (p.rules.length - 1)).flatMap (ynw (yap p)) ++ ynw (yap p) p.rules[p.rules.length - 1] := by
   refine (congrArg (fun l => List.flatMap (ynw (yap p)) l) e).trans ?_
   simp only [List.flatMap_append, List.flatMap_cons, List.flatMap_nil, List.append_nil]
  rw [yer, e2]
  simp [yer, yfj, yss, yap]
 ·have e2 : p.rules.flatMap (yop (yap p)) = (p.rules.take (p.rules.length - 1)).flatMap (yop (yap p)) ++ yop (yap p) p.rules[p.rules.length - 1] := by
   refine (congrArg (fun l => List.flatMap (yop (yap p)) l) e).trans ?_
   simp only [List.flatMap_append, List.flatMap_cons, List.flatMap_nil, List.append_nil]
  rw [yup, e2]
  simp [yup, yfj, zqc, yap]
theorem zjo {s : ByteArray} {ts : List Tok} (h : yfr s = .ok ts) : s.size ≤ 16384 := by
 unfold yfr at h
 split at h
 ·cases h
 ·omega
theorem fewer_scan {p : ProgD} (h : ycn p = 0) (h0 : 0 < p.rules.length) {ts : List Tok} (hs : yfr (ba (yer p)) = .ok ts) : ∃ us, yfr (ba (yer (yfj p))) = .ok us := by
 have h1 := zjo hs
 have h2 := yux hs
 have h3 := congrArg List.length (ypt h hs)
 obtain ⟨u, _, e1, e2⟩ := zdq h0
 rw [e1, yar, List.length_append] at h1
 rw [e2, List.length_append, List.length_map] at h3
 have hw := yrb (ykj (zaj h))
 rw [← yde (yer (yfj p))] at hw
 obtain ⟨us, h4, _⟩ := scanF_of hw (by rw [yar]; omega) (by omega)
 exact ⟨us, h4⟩
theorem join_words {s o : ByteArray} {b : Nat → List UInt8} (hb : ∀ i, zdg (b i)) {ts : List Tok} (hs : yfr s = .ok ts) (ho : yad o 0 = yfu s b 0 ts) (hsz : o.size ≤ 16384) : ∃ us, yfr o = .ok us ∧ us.map (pwT o) = ts.map (pwT s) := by
 have hg := zkw s ts hs
 refine ⟨_, scanF_join s o b hb ts hg ho hsz (yux hs), ?_⟩
 apply List.ext_getElem?
 intro j
 rw [List.getElem?_map, List.getElem?_map]
 cases ht : ts[j]? with
 | none =>
  have : (zda b 0 0 ts)[j]? = none := by
   rw [List.getElem?_eq_none_iff] at ht ⊢
   rw [yxs]; exact ht
  rw [this]; rfl
 | some t =>
  obtain ⟨u, hu⟩ : ∃ u, (zda b 0 0 ts)[j]? = some u := by
   have hj := (List.getElem?_eq_some_iff.1 ht).1
   exact ⟨_, List.getElem?_eq_getElem (by rw [yxs]; exact hj)⟩
  rw [hu]
  obtain ⟨k1, k2, k3, k4, k5⟩ := join_text s b ts (zmo hg) 0 [] j u t hu ht
  rw [List.nil_append, ← ho] at k5
  rw [ycq, Nat.zero_add] at k5
  simp only [Option.map_some, Option.some.injEq, pwT, PW.mk.injEq]
  exact ⟨k5, k1, k2⟩
end
section
theorem ydy {α : Type} {l : List α} {k : Nat} {x : α} (hx : l[k]? = some x) : l.take (k + 1) = l.take k ++ [x] := by
 obtain ⟨hk, rfl⟩ := List.getElem?_eq_some_iff.1 hx
 exact List.take_succ_eq_append_getElem hk
def yfo (p : ProgD) (k : Nat) : Bs := yss p ++ (p.vars.take k).flatMap zkg
def ybw (p : ProgD) (k : Nat) : Bs := yss p ++ (p.vars.flatMap zkg ++ (p.rules.take k).flatMap (ynw (yap p)))
def zjj (names : List Bs) (r : RuleD) : Bs := ykk ++ (32 :: (bl r.name ++ (58 :: 32 :: (yem false names r.guard ++ [32, 45, 62]))))
theorem zgo (names : List Bs) (r : RuleD) : ynw names r = zjj names r ++ (32 :: (yiw names r.sets ++ [59, 10])) := by simp [ynw, zjj]
theorem yxw {p : ProgD} {k : Nat} {x : VarD} (h : p.vars[k]? = some x) : yfo p (k + 1) = yfo p k ++ zkg x := by
 rw [yfo, yfo, ydy h, List.flatMap_append]; simp
theorem zbo {p : ProgD} : yfo p p.vars.length = ybw p 0 := by simp [yfo, ybw]
theorem yul {p : ProgD} {k : Nat} {x : RuleD} (h : p.rules[k]? = some x) : ybw p (k + 1) = ybw p k ++ ynw (yap p) x := by
 rw [ybw, ybw, ydy h, List.flatMap_append]; simp
theorem yqa {p : ProgD} : ybw p p.rules.length = yer p := by simp [ybw, yer]
theorem zep {names : List Bs} {s : SetD} : ∀ {l : List SetD}, l ≠ [] → yiw names (l ++ [s]) = yiw names l ++ (44 :: 32 :: zdb names s)
 | [], h => absurd rfl h
 | [a], _ => by simp [yiw]
 | a :: b :: l, _ => by
  have := zep (names := names) (s := s) (l := b :: l) (by simp)
  simp only [List.cons_append] at this ⊢
  simp [yiw, this]
theorem zeo {names : List Bs} {l : List SetD} {k : Nat} {s : SetD} (h : l[k]? = some s) (h0 : 0 < k) : yiw names (l.take (k + 1)) = yiw names (l.take k) ++ (44 :: 32 :: zdb names s) := by
 have hk := (List.getElem?_eq_some_iff.1 h).1
 rw [ydy h, zep]
 intro e
 have := congrArg List.length e
 rw [List.length_take, List.length_nil] at this
 omega
theorem zcg {names : List Bs} {l : List SetD} {s : SetD} (h : l[0]? = some s) : yiw names (l.take 1) = zdb names s := by
 rw [ydy (k := 0) h]; simp [yiw]
structure ShortP (names : List Bs) : Prop where
 good : yho nmW names = true
 len : ∀ w ∈ names, w.length ≤ 24
theorem zrg {p : ProgD} (h : ProgOkP p) : ShortP (yap p) := ⟨yvy h, fun w hw => by
 obtain ⟨x, hx, rfl⟩ := List.mem_map.1 hw
 exact (ydw (h.vnames x hx)).1.1⟩
theorem ysr {names : List Bs} (hs : ShortP names) {e : List Tm} (hv : yco e names.length = true) : (yem false names e).length ≤ 6798 ∧ e.length ≤ 200 := by
 have := formatT_len zbk hs.good hv false
 omega
theorem yzj {names : List Bs} (hs : ShortP names) {s : SetD} (h : SetOkP names s) : (zdb names s).length ≤ 6826 := by
 have h1 := (ysr hs h.val).1
 have h2 : (yfn names s.var).length ≤ 24 := by
  have hv := h.var
  obtain ⟨w, hw⟩ : ∃ w, names[s.var.toNat]? = some w := ⟨_, List.getElem?_eq_getElem (by omega)⟩
  rw [yfn, hw]
  exact hs.len w (List.mem_of_getElem? hw)
 simp only [zdb, List.length_append, List.length_cons]
 omega
theorem yvb {names : List Bs} (hs : ShortP names) : ∀ {l : List SetD}, (∀ s ∈ l, SetOkP names s) → (yiw names l).length ≤ 6828 * l.length
 | [], _ => by simp [yiw]
 | [s], h => by have := yzj hs (h s (by simp)); simp only [yiw, List.length_cons, List.length_nil]; omega
 | s :: s2 :: l, h => by
  have h1 := yzj hs (h s (by simp))
  have h2 := yvb hs (l := s2 :: l) (fun y hy => h y (by simp only [List.mem_cons] at hy ⊢; exact .inr hy))
  simp only [yiw, List.length_append, List.length_cons] at h2 ⊢
  omega
theorem zcd {names : List Bs} (hs : ShortP names) {r : RuleD} (h : RuleOkP names r) : (zjj names r).length ≤ 6840 := by
 have h1 := (ysr hs h.guard).1
 have h2 := h.name.1
 simp only [zjj, List.length_append, List.length_cons, List.length_nil, ykk]
 omega
theorem ruleT_len {names : List Bs} (hs : ShortP names) {r : RuleD} (h : RuleOkP names r) (hl : r.sets.length ≤ 6) : (ynw names r).length ≤ 47900 := by
 have h1 := zcd hs h
 have h2 := yvb hs h.sets
 rw [zgo]
 simp only [List.length_append, List.length_cons, List.length_nil]
 omega
theorem ydb {n : Nat} (h : n ≤ 4096) : (dec n).length ≤ 4 := zfk 4 n (by omega) (by omega)
theorem offT_len {h : Int} (hh : -4096 ≤ h ∧ h ≤ 4096) : (ysz h).length ≤ 7 := by
 unfold ysz
 split
 ·have := ydb (n := h.toNat) (by omega); simp; omega
 ·split
  ·have := ydb (n := (-h).toNat) (by omega); simp; omega
  ·simp
theorem yun {c : Int} (hc : 0 ≤ c ∧ c ≤ 255) {w : Bs} (hw : w.length ≤ 3) : (ytb c w).length ≤ 10 := by
 unfold ytb
 split
 ·omega
 ·have := ydb (n := c.toNat) (by omega); simp; omega
theorem zax {x : VarD} (h : NumOk x) : (ypw x).length ≤ 30 := by
 have h1 := offT_len h.hi
 have h2 := yun h.node (w := [110]) (by simp)
 have h3 := yun h.id (w := yvi) (by simp [yvi])
 have h4 := ydb (n := x.hi.toNat) (by have := h.hi; omega)
 have h5 := ydb (n := x.lo.toNat) (by have := h.lo; omega)
 have hb : (yfs x).length ≤ 17 := by
  unfold yfs
  split
  ·rw [List.length_append]; omega
  ·split
   ·rw [List.length_append]; omega
   ·omega
 unfold ypw
 split
 ·simp [zcz]
 ·split
  ·simp [zgi]
  ·simp only [List.length_append, List.length_cons]; omega
theorem varT_len {x : VarD} (h : NumOk x) (hn : ydo (bl x.name)) : (zkg x).length ≤ 63 := by
 have h1 := zax h
 have h2 := hn.1
 simp only [zkg, List.length_append, List.length_cons, List.length_nil, yve]
 omega
theorem yso {α : Type} {f : α → Bs} {n : Nat} : ∀ {l : List α}, (∀ x ∈ l, (f x).length ≤ n) → (l.flatMap f).length ≤ n * l.length
 | [], _ => by simp
 | x :: l, h => by
  have h1 := yso (l := l) (fun y hy => h y (by simp [hy]))
  have h2 := h x (by simp)
  simp only [List.flatMap_cons, List.length_append, List.length_cons]
  rw [Nat.mul_add]; omega
theorem yzl {p : ProgD} (h : ycn p = 0) : ∀ r ∈ p.rules, r.sets.length ≤ 6 := by
 intro r hr
 have h2 := (zdm h).form
 rw [List.all_eq_true] at h2
 have h3 := h2 r hr
 simp only [yci, Bool.and_eq_true, decide_eq_true_eq, ycw] at h3
 omega
theorem head_len {p : ProgD} (h : ProgOkP p) : (yss p).length ≤ 34 := by
 have := (ydw h.name).1.1
 simp only [yss, List.length_append, List.length_cons, List.length_nil, yrl]
 omega
theorem yta {p : ProgD} (h : ProgOkP p) (k : Nat) : (yfo p k).length ≤ 412 := by
 have h1 := head_len h
 have h2 := yso (f := zkg) (n := 63) (l := p.vars.take k) (fun x hx => varT_len (h.vars x (List.mem_of_mem_take hx)) (ydw (h.vnames x (List.mem_of_mem_take hx))).1)
 have h3 := h.few
 have h4 : (p.vars.take k).length ≤ 6 := by rw [List.length_take]; omega
 rw [yfo, List.length_append]
 omega
theorem yqb {p : ProgD} (hc : ycn p = 0) (k : Nat) : (ybw p k).length ≤ 575212 := by
 have h := ykj hc
 have h1 := yta h p.vars.length
 have h2 := yso (f := ynw (yap p)) (n := 47900) (l := p.rules.take k) (fun x hx => ruleT_len (zrg h) (h.rules x (List.mem_of_mem_take hx)) (yzl hc x (List.mem_of_mem_take hx)))
 have h3 := h.rfew
 have h4 : (p.rules.take k).length ≤ 12 := by rw [List.length_take]; omega
 rw [yfo, List.take_length, List.length_append] at h1
 rw [ybw, List.length_append, List.length_append]
 omega
theorem progT_len {p : ProgD} (hc : ycn p = 0) : (yer p).length ≤ 575212 := by rw [← yqa]; exact yqb hc _
end
set_option maxHeartbeats 4000000
section
open Go.RowKit
def zde (ts : List Tok) (n : Nat) : List Tok := ts.drop (ts.length - n)
theorem yos {ts ts' : List Tok} (h : ts' <:+ ts) : zde ts ts'.length = ts' := by
 obtain ⟨p, rfl⟩ := h
 simp [zde]
theorem zcl {g : Tok → PW} {ts : List Tok} {r : List PW} (h : r <:+ ts.map g) : zde ts r.length <:+ ts ∧ (zde ts r.length).map g = r := by
 refine ⟨List.drop_suffix _ _, ?_⟩
 obtain ⟨p, hp⟩ := h
 have hl : p.length + r.length = ts.length := by have := congrArg List.length hp; simpa using this
 rw [zde, List.map_drop, ← hp, List.drop_append]
 have e : ts.length - r.length = p.length := by omega
 rw [e]
 simp
theorem ydd.suf {s : ByteArray} {ts ts' : List Tok} (h : ydd s ts) (hs : ts' <:+ ts) : ydd s ts' := fun t ht => h t (hs.subset ht)
def zup (rs : List ResultVar) (s : ByteArray) (names : List Bs) (us : List Value) (ts : List Tok) (res : Res) (e : Exit) (st : SS) : Prop := match res with
 | .ok x rest => zpc TT rs (ybk x) (yaf (rdH s (zde ts rest.length) names us)) e st
 | .bad c rest => zuo (zfq (yum s (zde ts rest.length)) c) e st
def yyi (f : FuncId) (args : List AV) (s : ByteArray) (names : List Bs) (us : List Value) (ts : List Tok) (res : Res) : Prop := match res with
 | .ok x rest => yhb Tryz.prog f (.lp 1001 0 :: args) (yaf (rdH s ts names us)) (ybk x) (yaf (rdH s (zde ts rest.length) names us))
 | .bad c rest => zrn Tryz.prog f (.lp 1001 0 :: args) (yaf (rdH s ts names us)) (zfq (yum s (zde ts rest.length)) c)
theorem yby {f : FuncId} {fn : Func} {c : Code} {N : Nat} {rs : List ResultVar} {args : List AV} {s : ByteArray} {names : List Bs} {us : List Value} {ts : List Tok} {res : Res} (hf : Tryz.prog.funcs[f]? = some fn) (hn : (fn.name == "runtime.NumGoroutine") = false) (hb : fn.body = some c) (hN : fn.ntmps = N) (hrs : fn.results = rs.toArray) (hlen : (Nat.ble (args.length + 1) N && Nat.ble N 1000000) = true) (hM : Nat.ble N 1001 = true)
  (h : A Tryz.prog N c (zup rs s names us ts res) (S (yid 0 (.lp 1001 0 :: args)) (rdH s ts names us))) : yyi f args s names us ts res := by
 cases res with
 | ok x rest => exact ybb tok hf hn hb hN hrs hlen (zja hM) h
 | bad c rest => exact zfj hf hn hb hN hlen h
theorem yep {rs : List ResultVar} {s : ByteArray} {names : List Bs} {us : List Value} {ts ts' : List Tok} {x : List Tm} {rest : List PW} {t : List (Nat × AV)} {h : List (Nat × Option LObj)} {y : AV} (hts : ts' <:+ ts) (hr : ts'.length = rest.length) (hx : yym TT (S t h) rs = some y) (hy : y = ybk x) (hh : yaf h 1001 = some (rdO s ts' names us)) : zup rs s names us ts (.ok x rest) .ret (S t h) := by
 subst hy
 refine ⟨_, hx, yam _, ?_⟩
 rw [← hr, yos hts]
 exact yaj (yab hh yai)
theorem zoh {nm : Bs → Bool} {names : List Bs} {op c : Int} {ts rest : List PW} (h : yzp nm names op ts = .bad c rest) : rest = ts := by
 unfold yzp at h
 cases ts with
 | nil => simp only [Res.bad.injEq] at h; exact h.2.symm
 | cons t r =>
  simp only at h
  split at h
  ·split at h
   ·cases h
   ·simp only [Res.bad.injEq] at h; exact h.2.symm
  ·simp only [Res.bad.injEq] at h; exact h.2.symm
theorem ztm {nm : Bs → Bool} {names : List Bs} {s : ByteArray} {op : Int} {ts : List Tok} {x : List Tm} {rest : List PW} (h : yzp nm names op (ts.map (pwT s)) = .ok x rest) : ∃ t r i, ts = t :: r ∧ nm (pwT s t).w = true ∧ ypc names (pwT s t).w = some i ∧ x = [(op, (i : Int))] ∧ rest = r.map (pwT s) := by
 unfold yzp at h
 cases ts with
 | nil => cases h
 | cons t r =>
  simp only [List.map_cons] at h
  split at h
  ·rename_i hn
   split at h
   ·rename_i i hi
    simp only [Res.ok.injEq] at h
    exact ⟨t, r, i, rfl, hn, hi, h.1.symm, h.2.symm⟩
   ·cases h
  ·cases h
theorem ydi {s : ByteArray} {ts ts' : List Tok} {c : Int} {rest : List PW} (hts : ts' <:+ ts) (hr : ts'.length = rest.length) : zfq (yum s ts') c = zfq (yum s (zde ts rest.length)) c := by
 rw [← hr, yos hts]
section
variable {s : ByteArray} {ts : List Tok} {names : List Bs} {us : List Value}
theorem zoj {t : Tok} {r : List Tok} (h : ydd s (t :: r)) (hs : s.size ≤ 1000000000) : (pwT s t).w.length ≤ 1000000000 := by
 simp only [pwT, yad, List.length_take, List.length_drop]; have := (h t (by simp)).2.1; omega
theorem yth {t : Tok} {r : List Tok} {x : Nat} (h : ydd s (t :: r)) (hl : names.length ≤ 1000) (hs : s.size ≤ 1000000000) (hw : nmW (pwT s t).w = true) (hx : ypc names (pwT s t).w = some x) : yhb Tryz.prog 93 [.lp 1001 0] (yaf (rdH s (t :: r) names us)) (i64 x) (yaf (rdH s r names us)) := by
 have hk := (h t (by simp)).2.2 hw
 have hwl := zoj h hs
 refine ybb tok Tryz.func93 rfl rfl Tryz.ntmps93 Tryz.results93 rfl (zja rfl) ?_
 show A _ _ _ _ (S _ _)
 (repeat (first | refine zy ?_ | refine qd 1001 (ydn h) ?_ | refine qd 1001 (yfc h) ?_))
 refine ybu 10 rfl (fun h2 => ?_) (fun h2 => ?_)
 ·simp [ygp, hk] at h2
 (repeat (first | refine zy ?_ | refine yah rfl rfl (yqw (pwT s t).w (by omega)) rfl rfl ?_))
 refine yag rfl (fun h3 => ?_) (fun h3 => ?_)
 ·rw [hw] at h3; cases h3
 (repeat (first | refine zy ?_ | refine yah rfl rfl (zat names (pwT s t).w hl) rfl rfl ?_))
 rw [hx]
 (repeat (first | refine zy ?_ | refine qd 1001 (yjt t r) ?_))
 refine yal ?_
 exact ⟨_, rfl, yam _, yaj (yab rfl yai)⟩
theorem yqn {c : Int} {rest : List PW} {op : Int} (h : ydd s ts) (hl : names.length ≤ 1000) (hs : s.size ≤ 1000000000) (hv : yzp nmW names op (ts.map (pwT s)) = .bad c rest) : zrn Tryz.prog 93 [.lp 1001 0] (yaf (rdH s ts names us)) (zfq (yum s ts) c) := by
 refine zfj Tryz.func93 rfl rfl Tryz.ntmps93 rfl ?_
 show A _ _ _ _ (S _ _)
 refine zt ?_; refine yac (lf := lfT) rfl ?_
 (try refine zo ?_)
 refine zt ?_; refine yac (lf := lfT) rfl ?_
 (repeat (first | refine zo ?_ | refine qd 1001 (ydn h) ?_))
 refine zt ?_; refine yac (lf := lfT) rfl ?_
 (repeat (first | refine zo ?_ | refine qd 1001 (yfc h) ?_))
 cases ts with
 | nil =>
  simp only [List.map_nil, yzp, Res.bad.injEq] at hv
  obtain ⟨rfl, _⟩ := hv
  (try refine zo ?_)
  refine zt ?_
  refine zT ?_
  refine zt ?_; refine yaz (lf := lfT) 1 rfl rfl rfl ?_
  (try refine zo ?_)
  exact ⟨rfl, yyo 1001 (ytz 4) rfl rfl rfl rfl rfl⟩
 | cons t r =>
  have hwl := zoj h hs
  refine ybu 10 rfl (fun h2 => ?_) (fun h2 => ?_)
  ·have hn : nmW (pwT s t).w = false := by
    cases hq : nmW (pwT s t).w with
    | false => rfl
    | true => have := (h t (by simp)).2.2 hq; simp [ygp, this] at h2
   simp only [List.map_cons, yzp, hn, Bool.false_eq_true, if_false, Res.bad.injEq] at hv
   obtain ⟨rfl, _⟩ := hv
   (try refine zo ?_)
   refine zt ?_
   refine zT ?_
   refine zt ?_; refine yaz (lf := lfT) 1 rfl rfl rfl ?_
   (try refine zo ?_)
   exact ⟨rfl, yyo 1001 (ytz 4) rfl rfl rfl rfl rfl⟩
  (repeat (first | refine zo ?_ | refine yah rfl rfl (yqw (pwT s t).w (by omega)) rfl rfl ?_))
  refine zt ?_
  refine yag rfl (fun h3 => ?_) (fun h3 => ?_)
  ·have hn : nmW (pwT s t).w = false := by simpa using h3
   simp only [List.map_cons, yzp, hn, Bool.false_eq_true, if_false, Res.bad.injEq] at hv
   obtain ⟨rfl, _⟩ := hv
   refine zt ?_; refine yaz (lf := lfT) 1 rfl rfl rfl ?_
   (try refine zo ?_)
   exact ⟨rfl, yyo 1001 (ytz 4) rfl rfl rfl rfl rfl⟩
  have hn : nmW (pwT s t).w = true := by simpa using h3
  simp only [List.map_cons, yzp, hn, if_true] at hv
  refine zt ?_; refine yac (lf := lfT) rfl ?_
  (repeat (first | refine zo ?_ | refine yah rfl rfl (zat names (pwT s t).w hl) rfl rfl ?_))
  cases hx : ypc names (pwT s t).w with
  | some x => rw [hx] at hv; cases hv
  | none =>
   rw [hx] at hv
   simp only [Res.bad.injEq] at hv
   obtain ⟨rfl, _⟩ := hv
   (try refine zo ?_)
   refine zt ?_; refine yac (lf := lfT) rfl ?_
   (try refine zo ?_)
   refine zt ?_
   refine zT ?_
   refine zt ?_; refine yaz (lf := lfT) 1 rfl rfl rfl ?_
   (try refine zo ?_)
   exact ⟨rfl, yyo 1001 (ytz 5) rfl rfl rfl rfl rfl⟩
end
end
end Go.Proofs.YtefiainojfeagaaGreatDoor
