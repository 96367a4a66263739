/- The walk over the law TypesOfParts. -/
import Derived.Test.YtdjhkjidakimhaaTypeUse2
import Derived.Test.YtdjhkjidakimhaaTypeMath3
import Derived.Test.YtdjhkjidakimhaaOwn2
set_option linter.unusedVariables false
namespace Go.Proofs.Ytdjhkjidakimhaa
open Go.RowKit

set_option maxHeartbeats 2000000 in
theorem roperand0 (v : Value) (l : List Tm) (p : Nat) (E : Ex) (t : Tm) (r r1 : List Tm) (w : World) (hl : l.length ≤ 1000) (hv : Hid (Terms w v l)) (hE : Hid (l.drop p = E.fl ++ r)) (ho : Hid E.ok) (hA : Hid (l.drop p = t :: r1)) (har : 1 ≤ ar t.1) :
    Calls Try.prog 17 #[v, .int .i64 p, .int .i64 0] w fun e w' => e = .returned (.int .i64 ((p + 1 : Nat) : Int)) ∧ w = w' := by
  obtain ⟨hp, hpt, hd1⟩ := drop_get hA.out
  obtain ⟨a0, cap0, rfl, h1, h2, h3⟩ := hv.out.open
  obtain ⟨g, o, rfl, hg, hc⟩ := h3 (by omega)
  obtain ⟨c0, c1⟩ := hc p t hpt
  have HE1 := Lib.hid (end_fl hE.out ho.out)
  have hb := ar_bd t.1
  have hb2 := hb.2
  clear hc h3 hpt hd1 hb
  go_enter Try.func17, Try.ntmps17
  go_wp2_with fail
  refine (rend_at _ l p _ hl hv (by omega)).mono ?_
  rintro e w' ⟨rfl, rfl⟩
  rw [HE1.out]
  go_wp2_with (go_at_call 16; refine (rarity_any _ _).mono ?_; rintro e w' ⟨rfl, rfl⟩)
  refine wp_loop_rounds 1 ?_
  rw [rounds_succ]
  go_wp2_with fail
  go_ret
  exact ⟨ret_int (by omega), rfl⟩

/-- Where an operand lies, and what Operand and End return there. -/
theorem part_at (v : Value) (l : List Tm) (E A : Ex) (k : Nat) (hl : l.length ≤ 1000) (ho : E.ok) (hf : E.fl = l) (hA : (kids E)[k]? = some A) :
    ∃ (q : Nat) (r : List Tm), l.drop q = A.fl ++ r ∧ ∀ w, Terms w v l → Calls Try.prog 17 #[v, .int .i64 0, .int .i64 (k : Int)] w fun e w' => e = .returned (.int .i64 (q : Int)) ∧ w = w' := by
  have hE : Hid (l.drop 0 = E.fl ++ []) := by rw [List.append_nil, hf]; rfl
  cases E with
  | lf t => simp [kids] at hA
  | un t a =>
    match k, hA with
    | 0, hA =>
      obtain rfl : a = A := by simpa [kids] using hA
      have hA : Hid (l.drop 0 = t :: (a.fl ++ [])) := by rw [← hf, List.append_nil]; rfl
      exact ⟨1, [], (drop_get hA.out).2.2, fun w hw => roperand0 v l 0 (.un t a) t [] _ w hl hw hE ho hA (by have := ho.1; omega)⟩
    | k + 1, hA => simp [kids] at hA
  | bi t a b =>
    have hA0 : Hid (l.drop 0 = t :: (a.fl ++ (b.fl ++ []))) := by rw [← hf, List.append_nil]; rfl
    have hd := (drop_get hA0.out).2.2
    match k, hA with
    | 0, hA =>
      obtain rfl : a = A := by simpa [kids] using hA
      exact ⟨1, _, hd, fun w hw => roperand0 v l 0 (.bi t a b) t [] _ w hl hw hE ho hA0 (by have := ho.1; omega)⟩
    | 1, hA =>
      obtain rfl : b = A := by simpa [kids] using hA
      exact ⟨0 + 1 + a.fl.length, _, drop_next hd, fun w hw => roperand1 v l 0 (.bi t a b) a t [] _ w hl hw hE ho hA0 ho.2.1 (by have := ho.1; omega)⟩
    | k + 2, hA => simp [kids] at hA
  | tr t a b c =>
    have hA0 : Hid (l.drop 0 = t :: (a.fl ++ (b.fl ++ (c.fl ++ [])))) := by rw [← hf, List.append_nil]; rfl
    have hd := (drop_get hA0.out).2.2
    match k, hA with
    | 0, hA =>
      obtain rfl : a = A := by simpa [kids] using hA
      exact ⟨1, _, hd, fun w hw => roperand0 v l 0 (.tr t a b c) t [] _ w hl hw hE ho hA0 (by have := ho.1; omega)⟩
    | 1, hA =>
      obtain rfl : b = A := by simpa [kids] using hA
      exact ⟨0 + 1 + a.fl.length, _, drop_next hd, fun w hw => roperand1 v l 0 (.tr t a b c) a t [] _ w hl hw hE ho hA0 ho.2.1 (by have := ho.1; omega)⟩
    | 2, hA =>
      obtain rfl : c = A := by simpa [kids] using hA
      exact ⟨0 + 1 + a.fl.length + b.fl.length, _, drop_next (drop_next hd), fun w hw => roperand2 v l 0 (.tr t a b c) a b t [] _ w hl hw hE ho hA0 ho.2.1 ho.2.2.1 (by have := ho.1; omega)⟩
    | k + 3, hA => simp [kids] at hA

set_option maxHeartbeats 8000000 in
theorem walk_TypesOfParts (ev : Value) (l : List Tm) (kv : Value) (kinds : List Int) (bound : Bool) (w : World) (hv0 : Terms w ev l ∧ ∀ t ∈ l, TermIn t) (hk0 : Ints .i64 w kv kinds ∧ ∀ x ∈ kinds, In64 x) :
    Calls Try.prog 4 #[ev, kv, .bool bound] w fun e w' => e = .returned (.bool true) ∧ Below w.heap.size w w' := by
  obtain ⟨hv, _⟩ := hv0
  obtain ⟨hk, _⟩ := hk0
  have HV := Lib.hid hv
  have HK := Lib.hid hk
  obtain ⟨a0, cap0, rfl, h1, h2, h3, h4⟩ := hk.open
  clear h3 h4 hv hk
  by_cases hl : l.length ≤ 250
  rotate_left
  · have b1 : decide (l.length ≤ 250) = false := by simp; omega
    go_enter Try.func4, Try.ntmps4
    go_wp2_with (first | (go_at_call 11; refine (light_any _ l _ HV).mono ?_; rintro e w1 ⟨rfl, rfl⟩) | (go_at_call 12; refine (awake_any _).mono ?_; rintro e w1 ⟨rfl, hb1⟩))
    go_ret
    exact ⟨rfl, hb1⟩
  have b1 : decide (l.length ≤ 250) = true := by simp; omega
  by_cases h10 : 10 < kinds.length
  · go_enter Try.func4, Try.ntmps4
    go_wp2_with (first | (go_at_call 11; refine (light_any _ l _ HV).mono ?_; rintro e w1 ⟨rfl, rfl⟩) | (go_at_call 12; refine (awake_any _).mono ?_; rintro e w1 ⟨rfl, hb1⟩))
    go_ret
    exact ⟨rfl, hb1⟩
  have b10 : decide (10 < kinds.length) = false := by simp; omega
  have b10' : decide (10 < (kinds.length : Int)) = false := by simp; omega
  obtain ⟨a, b, hab⟩ : ∃ a b, ofF l kinds bound = (a, b) := ⟨_, _, rfl⟩
  have H := Lib.hid hab
  have e1 : (a != a) = false := by simp
  have e2 : (b != b) = false := by simp
  by_cases hb : b = 0
  rotate_left
  · have e3 : (b != 0) = true := by simp [hb]
    clear hab
    go_enter Try.func4, Try.ntmps4
    go_wp2_with (first | (go_at_call 11; refine (light_any _ l _ HV).mono ?_; rintro e w1 ⟨rfl, rfl⟩) | (go_at_call 13; refine (of_is _ _ l kinds bound a b _ (by omega) HV.out HK.out H.out).mono ?_; rintro e w1 ⟨rfl, hb1⟩) | (go_at_call 14; refine (rof_is _ _ l kinds bound a b _ (by omega) (HV.out.below hb1) (HK.out.below hb1) H.out).mono ?_; rintro e w2 ⟨rfl, hb2⟩) | (go_at_call 12; refine (awake_any _).mono ?_; rintro e w3 ⟨rfl, hb3⟩))
    go_ret
    exact ⟨rfl, bthen (bthen hb1 hb2) hb3⟩
  subst hb
  clear e2
  have e3 : ((0 : Int) != 0) = false := by simp
  obtain ⟨E, h6, hkk, hval, hp, hty, ha1, ha3⟩ := ofF_inv l kinds bound a hab
  obtain ⟨hok, hfl⟩ := parse_some hp
  obtain ⟨a1, cap1, rfl, j1, j2, j3⟩ := HV.out.open
  obtain ⟨rr, hrr⟩ := fl_hd E
  have hl0 : l[0]? = some (hd E) := by rw [← hfl, hrr]; rfl
  have hpos : 0 < l.length := by rw [← hfl]; exact E.fl_pos
  obtain ⟨g, o, rfl, hg, hc⟩ := j3 hpos
  obtain ⟨c0, c1⟩ := hc 0 _ hl0
  obtain ⟨in_, hin⟩ : ∃ x, (bound || aggB (hd E).1) = x := ⟨_, rfl⟩
  have HIN := Lib.hid hin
  obtain ⟨n, hn⟩ : ∃ n, (kids E).length = n := ⟨_, rfl⟩
  have HN := Lib.hid hn
  have har : Hid (ar (hd E).1 = (n : Int)) := by rw [← hn]; exact kids_ar E hok
  have hn3 : n ≤ 3 := by have := ar_bd (hd E).1; rw [har.out] at this; omega
  have HO := Lib.hid hok
  have HF := Lib.hid hfl
  have HC := Lib.hid c0
  have HKID : Hid (∀ (k : Nat) (A : Ex), (kids E)[k]? = some A → ∃ j, ofF A.fl kinds in_ = (j, 0) ∧ 1 ≤ j ∧ j ≤ 3) := by
    intro k A hA
    obtain ⟨j, q1, q2⟩ := kid_ofF E A kinds bound h6 hkk hok (List.mem_of_getElem? hA) (by rw [hfl]; exact hval) hty
    exact ⟨j, by rw [← hin]; exact q1, q2⟩
  obtain ⟨i0, hi, hz0, hz1, hz2⟩ := info_parts infoTerm
  have Hi := Lib.hid hi
  have Hz0 := Lib.hid hz0
  have Hz1 := Lib.hid hz1
  have Hz2 := Lib.hid hz2
  clear hi hz0 hz1 hz2 hab c1 hc hl0 hrr hok hfl hval hp hty hkk j3 h6 hn
  generalize hop : (hd E).1 = op at *
  have HOP := Lib.hid hop
  clear hop hin
  have hcell : ∀ wz : World, Below w.heap.size w wz → wz.cell? ⟨g, o, none⟩ = some (.int .i64 op) := fun wz hb => by
    rw [hb.cell (p := ⟨g, o, none⟩) hg]; have := HC.out; simpa using this
  have HCELL := Lib.hid hcell
  clear hcell c0
  have hpart : (bound = true ∧ in_ = true) ∨ (bound = false ∧ in_ = aggB op) := by
    have := HIN.out
    cases bound
    · right; exact ⟨rfl, by rw [← this]; rfl⟩
    · left; exact ⟨rfl, by rw [← this]; rfl⟩
  rcases hpart with ⟨rfl, hin⟩ | ⟨rfl, hin⟩
  all_goals
    subst hin
    go_enter Try.func4, Try.ntmps4
    go_wp2_with (first | (go_at_call 11; refine (light_any _ l _ HV).mono ?_; rintro e w1 ⟨rfl, rfl⟩) | (go_at_call 13; refine (of_is _ _ l kinds _ a 0 _ (by omega) HV.out HK.out H.out).mono ?_; rintro e w1 ⟨rfl, hb1⟩) | (go_at_call 14; refine (rof_is _ _ l kinds _ a 0 _ (by omega) (HV.out.below hb1) (HK.out.below hb1) H.out).mono ?_; rintro e w2 ⟨rfl, hb2⟩; have hbb := bthen hb1 hb2; have cc := HCELL.out _ hbb) | (go_at_call 15; refine (raggregate_any _ _).mono ?_; rintro e w' ⟨rfl, rfl⟩))
    go_loopw [12, 13, 14, 15, 16] (fun i _ _ _ _ wr => ∃ k : Nat, k ≤ n ∧ i = .int .i64 k ∧ Below w.heap.size w wr) (fun i _ _ _ _ _ => n - (intOf i).toNat)
    case atStart => exact ⟨0, by omega, rfl, hbb⟩
    case round =>
      obtain ⟨k, hkn, rfl, hbel⟩ := hrel
      have cc := HCELL.out _ hbel
      by_cases hlt : k < n
      · obtain ⟨A, hA⟩ : ∃ A, (kids E)[k]? = some A := ⟨_, List.getElem?_eq_getElem (by rw [HN.out]; exact hlt)⟩
        obtain ⟨j, hj, hj1, hj3⟩ := HKID.out k A hA
        obtain ⟨q, r, hd, hop⟩ := part_at (.slice (some ⟨g, o, none⟩) l.length cap1) l E A k (by omega) HO.out HF.out hA
        have HOPC := Lib.hid hop
        have HJ := Lib.hid hj
        have HE := Lib.hid (end_fl hd (kid_facts E A HO.out (List.mem_of_getElem? hA)).1)
        have hAp := A.fl_pos
        have hql : q + A.fl.length ≤ l.length := by
          have := congrArg List.length hd
          rw [List.length_drop, List.length_append] at this
          omega
        have HD := Lib.hid hd
        clear hop hj hd hA
        have htest : decide ((k : Int) < ar op) = true := by rw [har.out]; simp; omega
        go_wp2_with (go_at_call 16; refine (rarity_any _ _).mono ?_; rintro e w' ⟨rfl, rfl⟩)
        refine (HOPC.out _ (HV.out.below hbel)).mono ?_
        rintro e w' ⟨rfl, rfl⟩
        go_wp2_with fail
        refine (rend_at _ l q _ (by omega) (by exact HV.out.below hbel) (by omega)).mono ?_
        rintro e w' ⟨rfl, rfl⟩
        rw [HE.out]
        obtain ⟨m, hm⟩ : ∃ m, A.fl.length = m := ⟨_, rfl⟩
        rw [hm] at hAp hql ⊢
        have HM := Lib.hid hm
        clear hm
        have HPART : Hid (((l.flatMap tcell).drop (q * 2)).take (m * 2) = A.fl.flatMap tcell) := by
          unfold Hid
          rw [flat_drop tcell 2 (fun _ => rfl), HD.out, flat_take tcell 2 (fun _ => rfl), ← HM.out, List.take_left]
        have hbs := hbel.size
        have HROW : Hid (Row wr (.slice (some ⟨g, o + q * 2, none⟩) m (cap1 - q)) 2 m (A.fl.flatMap tcell)) := by
          have := Row.sub (terms_row (HV.out.below hbel)) q m (cap1 - q) (by omega) (by omega) (by omega)
          rw [HPART.out] at this
          exact this
        have hcq : ¬ cap1 = q := by omega
        go_wp2_with (at_builtin; refine wpList_append_row _ rfl _ _ 22 rfl w.heap.size 32 i0 (.agg #[.int .i64 0, .int .i64 0]) 2 16 Try.underlying22 Hi.out Hz0.out Hz1.out Hz2.out rfl (by decide) (.slice none 0 0) 0 [] rfl (World.ownsRow_nil _ _ _ _) _ m (A.fl.flatMap tcell) rfl ?hrow (tcell_one A.fl) (by unfold maxLen; omega) (by omega) hbs ?_; rotate_left; intro xv w3 hown hgrow)
        case hrow => (go_simp; exact HROW.out)
        have hb3 : Below w.heap.size w w3 := hbel.grown hgrow hbs (by simp [Value.ownBlock])
        have HT : Hid (Terms w3 xv A.fl) := row_terms (by have := row_of_own hown; simpa using this) HM.out.symm
        clear hown hgrow
        refine (of_is _ _ A.fl kinds _ j 0 _ (by rw [HM.out]; omega) HT.out (HK.out.below hb3) HJ.out).mono ?_
        rintro e w4 ⟨rfl, hb4⟩
        go_wp2_with fail
        exact ⟨⟨k + 1, by omega, by go_num, bthen hb3 hb4⟩, by simp [intOf]; omega⟩
      · have htest : decide ((k : Int) < ar op) = false := by rw [har.out]; simp; omega
        go_wp2_with (first | (go_at_call 16; refine (rarity_any _ _).mono ?_; rintro e w' ⟨rfl, rfl⟩) | (go_at_call 12; refine (awake_any _).mono ?_; rintro e w3 ⟨rfl, hb3⟩))
        go_ret
        exact ⟨by simp, bthen hbel hb3⟩
end Go.Proofs.Ytdjhkjidakimhaa
