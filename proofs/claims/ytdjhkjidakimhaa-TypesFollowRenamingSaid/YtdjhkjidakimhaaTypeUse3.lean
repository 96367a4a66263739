/- The walks over the reference's Rename and over the law TypesFollowRenaming. -/
import Derived.Test.YtdjhkjidakimhaaTypeUse2
import Derived.RegionTactic
import Derived.ChangeAlike
set_option linter.unusedVariables false
namespace Go.Proofs.Ytdjhkjidakimhaa
open Go.RowKit

theorem ren_step (m : List Int) (l : List Tm) (k : Nat) (hlt : k < l.length) (y : Int) (h5 : l[k].1 = 5 ∨ l[k].1 = 12) (hy : m.getD l[k].2.toNat 0 = y) :
    (mix (renG m) l (k + 1)).flatMap tcell = ((mix (renG m) l k).flatMap tcell).set (k * 2 + 1) (.int .i64 y) := by
  rw [mix_succ _ _ _ hlt, flat_set _ k l[k] y (mix_get _ l k hlt)]
  unfold renG
  rw [if_pos h5, hy]
theorem ren_stay (m : List Int) (l : List Tm) (k : Nat) (hlt : k < l.length) (h5 : ¬ (l[k].1 = 5 ∨ l[k].1 = 12)) : mix (renG m) l (k + 1) = mix (renG m) l k := by
  rw [mix_succ _ _ _ hlt, show renG m l[k] = l[k] by unfold renG; rw [if_neg h5], set_self _ _ _ (mix_get _ l k hlt)]
def RenRet (l : List Tm) (m : List Int) (w : World) (e : Ending) (w' : World) : Prop :=
  Below w.heap.size w w' ∧ (((∃ x ∈ m, x < 0 ∨ 6 ≤ x) ∧ e = .returned (.tuple #[.slice none 0 0, .int .i64 2])) ∨ ((∀ x ∈ m, 0 ≤ x ∧ x < 6) ∧ ∃ v, e = .returned (.tuple #[v, .int .i64 0]) ∧ Terms w' v (l.map (renG m))))

set_option maxHeartbeats 4000000 in
theorem rrename_any (ev : Value) (l : List Tm) (mv : Value) (m : List Int) (w : World) (hl : l.length ≤ 250) (hm : m.length ≤ 10) (HV : Hid (Terms w ev l)) (HK : Hid (Ints .i64 w mv m)) (hval : validB l m.length = true) :
    Calls Try.prog 21 #[ev, mv] w (RenRet l m w) := by
  obtain ⟨a0, cap0, rfl, h1, h2, h3, h4⟩ := HK.out.open
  have HC := Lib.hid h4
  obtain ⟨i0, hi, hz0, hz1, hz2⟩ := info_parts infoTerm
  have Hi := Lib.hid hi
  have Hz0 := Lib.hid hz0
  have Hz1 := Lib.hid hz1
  have Hz2 := Lib.hid hz2
  have HVAL := Lib.hid hval
  clear hi hz0 hz1 hz2 h3 h4
  go_enter Try.func21, Try.ntmps21
  go_wp2_with (go_at_call 20; refine (rvalid_any _ l _ _ (by omega) HV).mono ?_; rintro e w1 ⟨rfl, hb1⟩)
  go_loop [6] (fun i => ∃ k : Nat, k ≤ m.length ∧ i = .int .i64 k ∧ Hid (∀ x ∈ m.take k, 0 ≤ x ∧ x < 6)) (fun i => m.length - (intOf i).toNat)
  case atStart => exact ⟨0, by omega, rfl, fun x hx => by simp at hx⟩
  case round =>
    obtain ⟨k, hkl, rfl, hall⟩ := hrel
    by_cases hlt : k < m.length
    · obtain ⟨g, o, rfl, hg, hc⟩ := HC.out (by omega)
      have c0 := hc k _ (List.getElem?_eq_getElem hlt)
      rw [← hb1.cell (p := ⟨g, _, none⟩) hg] at c0
      clear hc
      generalize hx : m[k] = x at *
      have HX := Lib.hid hx
      clear hx
      by_cases hx0 : x < 0
      · go_wp2_with fail
        go_ret2
        exact ⟨hb1, .inl ⟨⟨x, by rw [← HX.out]; exact List.getElem_mem hlt, .inl hx0⟩, rfl⟩⟩
      · by_cases hx6 : 6 ≤ x
        · go_wp2_with fail
          go_ret2
          exact ⟨hb1, .inl ⟨⟨x, by rw [← HX.out]; exact List.getElem_mem hlt, .inr hx6⟩, rfl⟩⟩
        · go_wp2_with fail
          refine ⟨⟨k + 1, by omega, by go_num, fun y hy => ?_⟩, by simp [intOf]; omega⟩
          rw [List.take_succ_eq_append_getElem hlt, List.mem_append, List.mem_singleton, HX.out] at hy
          rcases hy with hy | rfl
          · exact hall.out y hy
          · omega
    · have hall' := hall.out
      rw [List.take_of_length_le (by omega)] at hall'
      have HALL := Lib.hid hall'
      clear hall' hall hkl
      go_wp2_with (at_builtin; refine wpList_append_row _ rfl _ _ 22 rfl w.heap.size 32 i0 (.agg #[.int .i64 0, .int .i64 0]) 2 16 Try.underlying22 Hi.out Hz0.out Hz1.out Hz2.out rfl (by decide) (.slice none 0 0) 0 [] rfl (World.ownsRow_nil _ _ _ _) _ l.length (l.flatMap tcell) rfl (terms_row (HV.out.below hb1)) (tcell_one l) (by unfold maxLen; omega) (by omega) hb1.size ?_; intro xv w2 hown hgrow)
      have HM : Hid (MixAt (renG m) l w xv 0 w2) := by
        refine ⟨?_, hb1.grown hgrow hb1.size (by simp [Value.ownBlock])⟩
        rw [mix_zero]; simpa using hown
      clear hown hgrow
      obtain ⟨xa, xcap, rfl⟩ := own_shape HM.out.1
      go_wp2_with fail
      go_loopw [8] (fun i wr => ∃ k : Nat, k ≤ l.length ∧ i = .int .i64 k ∧ Hid (MixAt (renG m) l w (.slice xa l.length xcap) k wr)) (fun i _ => l.length - (intOf i).toNat)
      case atStart => exact ⟨0, by omega, rfl, HM⟩
      case round =>
        obtain ⟨j, hjl, rfl, hm'⟩ := hrel
        by_cases hlj : j < l.length
        · obtain ⟨hown, hbel⟩ := hm'.out
          have hsh : ∃ g, xa = some ⟨g, 0, none⟩ := by
            rcases hown.2 with ⟨h0, h00⟩ | ⟨g, cap, cur, hv, _⟩
            · omega
            · cases hv; exact ⟨g, rfl⟩
          obtain ⟨g, rfl⟩ := hsh
          obtain ⟨d0, d1⟩ := tcell_get _ j _ (mix_get (renG m) l j hlj)
          have c0 := (hown.cellAt (j * 2) (by omega)).trans d0
          have c1 := (hown.cellAt (j * 2 + 1) (by omega)).trans d1
          have f1 := hown.frozenAt (j * 2 + 1)
          have HOWN := Lib.hid hown
          clear hown d0 d1
          by_cases h5 : l[j].1 = 5 ∨ l[j].1 = 12
          · obtain ⟨_, _, _, _, _, hall2, _, _⟩ := valid_parse HVAL.out
            have harg := List.all_eq_true.1 hall2 _ (List.getElem_mem hlj)
            clear hall2
            have hr := arg_leaf (kinds := m) harg h5
            clear harg
            obtain ⟨x0, x1⟩ := hr
            obtain ⟨y, hy⟩ : ∃ y, m.getD l[j].2.toNat 0 = y := ⟨_, rfl⟩
            have HSTEP := Lib.hid (ren_step m l j hlj y h5 hy)
            obtain ⟨g2, o2, rfl, hg2, hc2⟩ := HC.out (by omega)
            have cy := hc2 l[j].2.toNat y (by rw [getD_of m _ (by omega), hy])
            rw [← hbel.cell (p := ⟨g2, _, none⟩) hg2] at cy
            clear hc2 hy
            generalize hop : l[j].1 = op at *
            generalize hx : l[j].2 = x at *
            clear hop hx
            obtain ⟨x, rfl⟩ := Int.eq_ofNat_of_zero_le x0
            simp only [Int.toNat_natCast] at cy
            have hxl : x < m.length := by omega
            have h5' : (op == 5) = true ∨ ((op == 5) = false ∧ (op == 12) = true) := by
              rcases h5 with rfl | rfl
              · exact .inl rfl
              · exact .inr ⟨rfl, rfl⟩
            clear h5
            rcases h5' with e1 | ⟨e1, e2⟩
            all_goals
              go_wp2_with fail
              refine ⟨⟨j + 1, by omega, by go_num, ?_, hbel.setCell (own_ge HOWN.out g rfl) _⟩, by simp [intOf]; omega⟩
              rw [HSTEP.out]
              exact (HOWN.out.stored (j * 2 + 1) (.int .i64 y)).1
          · have hm2 : Hid (MixAt (renG m) l w (.slice (some ⟨g, 0, none⟩) l.length xcap) (j + 1) wr) := by
              unfold Hid MixAt
              rw [ren_stay m l j hlj h5]
              exact hm'.out
            have e1 : (l[j].1 == 5) = false := by simp; omega
            have e2 : (l[j].1 == 12) = false := by simp; omega
            clear h5
            generalize l[j].1 = op at *
            go_wp2_with fail
            exact ⟨⟨j + 1, by omega, by go_num, hm2⟩, by simp [intOf]; omega⟩
        · obtain rfl : j = l.length := by omega
          obtain ⟨hown, hbel⟩ := hm'.out
          rw [mix_all] at hown
          have HR := Lib.hid (row_terms (row_of_own hown) (by simp))
          clear hown
          go_wp2_with fail
          go_ret2
          exact ⟨hbel, .inr ⟨HALL.out, _, rfl, HR.out⟩⟩

/-- The list of types that the law makes, after k rounds. -/
def OthAt (kinds m : List Int) (w : World) (g : Nat) (k : Nat) (wr : World) : Prop :=
  wr.ownsRow w.heap.size 3 1 (.slice (some ⟨g, 0, none⟩) 6 6) 6 ((othAt kinds m k).map (.int .i64)) ∧ Below w.heap.size w wr
theorem oth_step (kinds m : List Int) (k : Nat) (y z : Int) (hy : m.getD k 0 = y) (hz : kinds.getD k 0 = z) : (othAt kinds m (k + 1)).map (Value.int .i64) = ((othAt kinds m k).map (Value.int .i64)).set y.toNat (.int .i64 z) := by
  rw [othAt, hy, hz, List.map_set]
theorem oth_start (W w : World) (kinds m : List Int) (hb : w.heap.size ≤ W.heap.size) : (W.alloc (.cells #[.int .i64 1, .int .i64 1, .int .i64 1, .int .i64 1, .int .i64 1, .int .i64 1] 3)).ownsRow w.heap.size 3 1 (.slice (some ⟨W.heap.size, 0, none⟩) 6 6) 6 ((othAt kinds m 0).map (.int .i64)) :=
  ⟨rfl, .inr ⟨W.heap.size, 6, _, rfl, hb, heap_alloc_new W _, by omega, by simp [maxLen], rfl, rfl⟩⟩

set_option maxHeartbeats 8000000 in
theorem walk_TypesFollowRenaming (ev : Value) (l : List Tm) (kv : Value) (kinds : List Int) (mv : Value) (m : List Int) (bound : Bool) (w : World) (hv0 : Terms w ev l ∧ ∀ t ∈ l, TermIn t) (hk0 : Ints .i64 w kv kinds ∧ ∀ x ∈ kinds, In64 x) (hm0 : Ints .i64 w mv m ∧ ∀ x ∈ m, In64 x) :
    Calls Try.prog 7 #[ev, kv, mv, .bool bound] w fun e w' => e = .returned (.bool true) ∧ Below w.heap.size w w' := by
  obtain ⟨hv, _⟩ := hv0
  obtain ⟨hk, _⟩ := hk0
  obtain ⟨hm, _⟩ := hm0
  have HV := Lib.hid hv
  have HK := Lib.hid hk
  have HM := Lib.hid hm
  obtain ⟨a0, cap0, rfl, h1, h2, h3, h4⟩ := hk.open
  obtain ⟨a1, cap1, rfl, k1, k2, k3, k4⟩ := hm.open
  have HC := Lib.hid h4
  have HD := Lib.hid k4
  clear h3 h4 hv hk hm k3 k4
  by_cases hl : l.length ≤ 250
  rotate_left
  · have b1 : decide (l.length ≤ 250) = false := by simp; omega
    go_enter Try.func7, Try.ntmps7
    go_wp2_with (first | (go_at_call 11; refine (light_any _ l _ HV).mono ?_; rintro e w1 ⟨rfl, rfl⟩) | (go_at_call 12; refine (awake_any _).mono ?_; rintro e w1 ⟨rfl, hb1⟩))
    go_ret
    exact ⟨rfl, hb1⟩
  have b1 : decide (l.length ≤ 250) = true := by simp; omega
  by_cases h6 : 6 < kinds.length
  · go_enter Try.func7, Try.ntmps7
    go_wp2_with (first | (go_at_call 11; refine (light_any _ l _ HV).mono ?_; rintro e w1 ⟨rfl, rfl⟩) | (go_at_call 12; refine (awake_any _).mono ?_; rintro e w1 ⟨rfl, hb1⟩))
    go_ret
    exact ⟨rfl, hb1⟩
  by_cases hml : m.length = kinds.length
  rotate_left
  · have b2 : ((m.length : Int) != (kinds.length : Int)) = true := by simp; omega
    go_enter Try.func7, Try.ntmps7
    go_wp2_with (first | (go_at_call 11; refine (light_any _ l _ HV).mono ?_; rintro e w1 ⟨rfl, rfl⟩) | (go_at_call 12; refine (awake_any _).mono ?_; rintro e w1 ⟨rfl, hb1⟩))
    go_ret
    exact ⟨rfl, hb1⟩
  have b2 : ((m.length : Int) != (kinds.length : Int)) = false := by simp; omega
  have HML := Lib.hid hml
  have hml1 : m.length ≤ kinds.length := by omega
  have hml2 : kinds.length ≤ m.length := by omega
  clear hml
  cases hval : validB l kinds.length with
  | false =>
    go_enter Try.func7, Try.ntmps7
    go_wp2_with (first | (go_at_call 11; refine (light_any _ l _ HV).mono ?_; rintro e w1 ⟨rfl, rfl⟩) | (go_at_call 20; refine (rvalid_any _ l _ _ (by omega) HV).mono ?_; rintro e w1 ⟨rfl, hb1⟩) | (go_at_call 12; refine (awake_any _).mono ?_; rintro e w2 ⟨rfl, hb2⟩))
    go_ret
    exact ⟨rfl, bthen hb1 hb2⟩
  | true =>
    have HVAL := Lib.hid hval
    have hvm : validB l m.length = true := by rw [HML.out]; exact hval
    have b3 : decide (6 < kinds.length) = false := by simp; omega
    go_enter Try.func7, Try.ntmps7
    go_wp2_with (first | (go_at_call 11; refine (light_any _ l _ HV).mono ?_; rintro e w1 ⟨rfl, rfl⟩) | (go_at_call 20; refine (rvalid_any _ l _ _ (by omega) HV).mono ?_; rintro e w1 ⟨rfl, hb1⟩))
    refine (rrename_any _ l _ m _ hl (by omega) (by exact HV.out.below hb1) (by exact HM.out.below hb1) hvm).mono ?_
    rintro e w2 ⟨hb2, hr⟩
    have hbb := bthen hb1 hb2
    rcases hr with ⟨_, rfl⟩ | ⟨hmr, v, rfl, ht⟩
    · go_wp2_with (go_at_call 12; refine (awake_any _).mono ?_; rintro e w3 ⟨rfl, hb3⟩)
      go_ret
      exact ⟨rfl, bthen hbb hb3⟩
    have HMR := Lib.hid hmr
    have HT := Lib.hid ht
    have hs2 := hbb.size
    clear hmr ht hb1 hb2
    go_wp2_with fail
    have hst : Hid (OthAt kinds m w w2.heap.size 0 (w2.alloc (.cells #[.int .i64 1, .int .i64 1, .int .i64 1, .int .i64 1, .int .i64 1, .int .i64 1] 3))) := ⟨oth_start w2 w kinds m hs2, hbb.alloc hs2 _⟩
    have HTL : Hid (Terms (w2.alloc (.cells #[.int .i64 1, .int .i64 1, .int .i64 1, .int .i64 1, .int .i64 1, .int .i64 1] 3)) v (l.map (renG m))) := HT.out.below ((Below.refl _ _).alloc (Nat.le_refl _) _)
    go_loopw [12] (fun i wr => ∃ k : Nat, k ≤ m.length ∧ i = .int .i64 k ∧ Hid (OthAt kinds m w w2.heap.size k wr) ∧ Hid (Below w2.heap.size w2 wr)) (fun i _ => m.length - (intOf i).toNat)
    case atStart => exact ⟨0, by omega, rfl, hst, (Below.refl _ _).alloc (Nat.le_refl _) _⟩
    case round =>
      obtain ⟨k, hkl, rfl, ho, hb2w⟩ := hrel
      by_cases hlt : k < m.length
      · obtain ⟨hown, hbel⟩ := ho.out
        obtain ⟨g1, o1, rfl, hg1, hc1⟩ := HC.out (by omega)
        obtain ⟨g2, o2, rfl, hg2, hc2⟩ := HD.out (by omega)
        obtain ⟨y, hy⟩ : ∃ y, m.getD k 0 = y := ⟨_, rfl⟩
        obtain ⟨z, hz⟩ : ∃ z, kinds.getD k 0 = z := ⟨_, rfl⟩
        have c1 := hc1 k z (by rw [getD_of kinds k (by omega), hz])
        have c2 := hc2 k y (by rw [getD_of m k (by omega), hy])
        rw [← hbel.cell (p := ⟨_, _, none⟩) hg1] at c1
        rw [← hbel.cell (p := ⟨_, _, none⟩) hg2] at c2
        have hyb := HMR.out y (by rw [← hy, List.getD_eq_getElem?_getD, List.getElem?_eq_getElem hlt]; exact List.getElem_mem hlt)
        obtain ⟨y0, y6⟩ := hyb
        obtain ⟨q, rfl⟩ := Int.eq_ofNat_of_zero_le y0
        have HSTEP := Lib.hid (oth_step kinds m k q z hy hz)
        have hbs := hbel.size
        have n1 : g1 ≠ w2.heap.size := by omega
        have n2 : g2 ≠ w2.heap.size := by omega
        have hq6 : q < 6 := by omega
        obtain ⟨u, hu⟩ : ∃ u, wr.cell? ⟨w2.heap.size, q, none⟩ = some u := ⟨_, (hown.cellAt q (by omega)).trans (List.getElem?_eq_getElem (by rw [List.length_map, othAt_length]; exact hq6))⟩
        have f1 := hown.frozenAt q
        have HOWN := Lib.hid hown
        have i1 : (0 : Int) ≤ (q : Int) := by omega
        have i2 : (q : Int) < 6 := by omega
        have i3 : (0 : Int) ≤ (k : Int) := by omega
        have i4 : (k : Int) < (m.length : Int) := by omega
        have i5 : (k : Int) < (kinds.length : Int) := by omega
        clear hc1 hc2 hown hy hz y0 y6
        go_wp2_with fail
        go_region
        go_wp2_with fail
        refine ⟨⟨k + 1, by omega, by go_num, ⟨?_, (hbel.setCell hs2 _).drew⟩, (hb2w.out.setCell (Nat.le_refl _) _).drew⟩, by simp [intOf]; omega⟩
        rw [HSTEP.out, Int.toNat_natCast]
        exact (HOWN.out.stored q _).1
      · obtain rfl : k = m.length := by omega
        obtain ⟨wo, rfl⟩ : ∃ wo : World, wo = wr := ⟨_, rfl⟩
        go_wp2_with fail
        go_loopw [13] (fun i wr => ∃ k : Nat, k ≤ m.length ∧ i = .int .i64 k ∧ Hid (∀ j, j < k → (othAt kinds m m.length).getD (m.getD j 0).toNat 0 = kinds.getD j 0) ∧ Hid (OthAt kinds m w w2.heap.size m.length wr) ∧ Hid (Below w2.heap.size w2 wr)) (fun i _ => m.length - (intOf i).toNat)
        case atStart => exact ⟨0, by omega, rfl, (fun j hj => by omega), ho, hb2w⟩
        case round =>
          clear hb2w ho
          obtain ⟨k, hkl, rfl, hall, ho, hb2w⟩ := hrel
          by_cases hlt : k < m.length
          · obtain ⟨hown, hbel⟩ := ho.out
            obtain ⟨g1, o1, rfl, hg1, hc1⟩ := HC.out (by omega)
            obtain ⟨g2, o2, rfl, hg2, hc2⟩ := HD.out (by omega)
            obtain ⟨y, hy⟩ : ∃ y, m.getD k 0 = y := ⟨_, rfl⟩
            obtain ⟨z, hz⟩ : ∃ z, kinds.getD k 0 = z := ⟨_, rfl⟩
            have c1 := hc1 k z (by rw [getD_of kinds k (by omega), hz])
            have c2 := hc2 k y (by rw [getD_of m k (by omega), hy])
            rw [← hbel.cell (p := ⟨_, _, none⟩) hg1] at c1
            rw [← hbel.cell (p := ⟨_, _, none⟩) hg2] at c2
            have hyb := HMR.out y (by rw [← hy, List.getD_eq_getElem?_getD, List.getElem?_eq_getElem hlt]; exact List.getElem_mem hlt)
            obtain ⟨y0, y6⟩ := hyb
            obtain ⟨q, rfl⟩ := Int.eq_ofNat_of_zero_le y0
            have hq6 : q < 6 := by omega
            obtain ⟨u, hu⟩ : ∃ u, (othAt kinds m m.length).getD q 0 = u := ⟨_, rfl⟩
            have c3 : wr.cell? ⟨w2.heap.size, q, none⟩ = some (.int .i64 u) := (hown.cellAt q (by omega)).trans (by rw [List.getElem?_map, getD_of _ q (by rw [othAt_length]; exact hq6), hu]; rfl)
            have HY := Lib.hid hy
            have HZ := Lib.hid hz
            have HU := Lib.hid hu
            have i1 : (0 : Int) ≤ (q : Int) := by omega
            have i2 : (q : Int) < 6 := by omega
            have i3 : (0 : Int) ≤ (k : Int) := by omega
            have i4 : (k : Int) < (m.length : Int) := by omega
            have i5 : (k : Int) < (kinds.length : Int) := by omega
            clear hc1 hc2 hown hy hz y0 y6 hu
            by_cases huz : u = z
            · have hne : (u != z) = false := by simp [huz]
              have HUZ := Lib.hid huz
              clear huz
              go_wp2_with fail
              go_quiet (fail)
              go_wp2_with fail
              refine ⟨⟨k + 1, by omega, by go_num, (fun j hj => ?_), ⟨own_below ho.out.1 (bdrew (Below.refl _ _) _), below_drewN hbel _⟩, below_drewN hb2w.out _⟩, by simp [intOf]; omega⟩
              rcases Nat.lt_or_ge j k with h | h
              · exact hall.out j h
              · obtain rfl : j = k := by omega
                rw [HY.out, HZ.out, Int.toNat_natCast, HU.out, HUZ.out]
            · have hne : (u != z) = true := by simp [huz]
              go_wp2_with fail
              go_quiet (fail)
              go_wp2_with (go_at_call 12; refine (awake_any _).mono ?_; rintro e w3 ⟨rfl, hb3⟩)
              go_ret
              exact ⟨rfl, (below_drewN hbel _).trans (hb3.mono (by simpa using hbel.size))⟩
          · obtain rfl : k = m.length := by omega
            obtain ⟨hown, hbel⟩ := ho.out
            have HO : Hid (Ints .i64 wr (.slice (some ⟨w2.heap.size, 0, none⟩) 6 6) (othAt kinds m m.length)) := by
              have h1 := row_of_own hown
              unfold Hid Ints
              rw [othAt_length]
              exact h1
            have HL := Lib.hid (show (l.map (renG m)).length = l.length by simp)
            obtain ⟨a, b, hab⟩ : ∃ a b, ofF l kinds bound = (a, b) := ⟨_, _, rfl⟩
            have e1 : (a == a) = true := by simp
            have e2 : (b == b) = true := by simp
            clear hown
            cases hkk : kindsB kinds with
            | false =>
              rw [ofF_kinds l kinds bound hkk] at hab
              simp only [Prod.mk.injEq] at hab
              obtain ⟨rfl, rfl⟩ := hab
              have H := Lib.hid (ofF_kinds l kinds bound hkk)
              clear hkk
              go_wp2_with fail
              refine (of_is _ _ l kinds bound 0 7 _ (by omega) (HV.out.below hbel) (HK.out.below hbel) H.out).mono ?_
              rintro e w3 ⟨rfl, hb3⟩
              go_wp2_with (go_at_call 12; refine (awake_any _).mono ?_; rintro e w4 ⟨rfl, hb4⟩)
              go_ret
              exact ⟨rfl, bthen (bthen hbel hb3) hb4⟩
            | true =>
              have hb7 : (b == 7) = false := by
                obtain ⟨E, hp, _⟩ := valid_parse HVAL.out
                rw [ofF_ok l kinds bound E h6 hkk HVAL.out hp] at hab
                split at hab
                · cases hab; rfl
                · cases hab; rfl
              have H2 := Lib.hid ((ofF_ren l kinds m (othAt kinds m m.length) bound HML.out (by omega) HVAL.out HMR.out (othAt_length _ _ _) (othAt_kinds kinds m hkk m.length (by omega)) hkk hall.out).trans hab)
              have H := Lib.hid hab
              clear hab hkk
              go_wp2_with fail
              refine (of_is _ _ l kinds bound a b _ (by omega) (HV.out.below hbel) (HK.out.below hbel) H.out).mono ?_
              rintro e w3 ⟨rfl, hb3⟩
              go_wp2_with fail
              refine (of_is _ _ (l.map (renG m)) (othAt kinds m m.length) bound a b _ (by rw [HL.out]; omega) (HT.out.below (bthen hb2w.out hb3)) (HO.out.below hb3) H2.out).mono ?_
              rintro e w4 ⟨rfl, hb4⟩
              go_wp2_with (go_at_call 12; refine (awake_any _).mono ?_; rintro e w5 ⟨rfl, hb5⟩)
              go_ret
              exact ⟨rfl, bthen (bthen (bthen hbel hb3) hb4) hb5⟩
end Go.Proofs.Ytdjhkjidakimhaa
