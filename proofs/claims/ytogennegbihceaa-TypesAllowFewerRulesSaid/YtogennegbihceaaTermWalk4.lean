/- The walks over Valid, of the program and of the reference (and the reference's one, Depth, Nest). -/
import Derived.Test.YtogennegbihceaaTermWalk3
set_option maxRecDepth 100000
namespace Go.Proofs.Ytogennegbihceaa
open Go.RowKit

def oneB (l : List Tm) : Bool := (parse l).isSome
theorem endNe (l : List Tm) (E : Ex) (h : parse l = some E) : (endR 1 0 l != (l.length : Int)) = false ∧ (endR 1 0 l == (l.length : Int)) = true := by
  rw [(end_one l).2 ⟨E, h⟩]; simp
theorem endEq (l : List Tm) (h : parse l = none) : (endR 1 0 l != (l.length : Int)) = true ∧ (endR 1 0 l == (l.length : Int)) = false := by
  have : endR 1 0 l ≠ (l.length : Int) := fun hq => by
    obtain ⟨E, hE⟩ := (end_one l).1 hq
    rw [h] at hE; cases hE
  simp [this]
theorem one_any (v : Value) (l : List Tm) (w : World) (hl : l.length ≤ 1000) (hv : Hid (Terms w v l)) :
    Calls Try.prog 46 #[v] w fun e w' => e = .returned (.bool (oneB l)) ∧ w = w' := by
  obtain ⟨a0, cap0, rfl, h1, h2, h3⟩ := hv.out.open
  clear h3
  cases hp : parse l with
  | none =>
    have H : Hid (oneB l = false) := by unfold oneB; rw [hp]; rfl
    obtain ⟨_, he⟩ := endEq l hp
    clear hp
    by_cases h0 : 0 < l.length
    all_goals
      go_enter Try.func46, Try.ntmps46
      go_wp2_with (go_at_call 64; refine (rend_at _ l 0 _ hl hv (by omega)).mono ?_; rintro e w' ⟨rfl, rfl⟩)
      go_ret
      exact ⟨ret_bool H.out.symm, rfl⟩
  | some E =>
    have H : Hid (oneB l = true) := by unfold oneB; rw [hp]; rfl
    have h0 : 0 < l.length := by rw [← (parse_some hp).2]; exact E.fl_pos
    obtain ⟨_, he⟩ := endNe l E hp
    clear hp
    go_enter Try.func46, Try.ntmps46
    go_wp2_with (go_at_call 64; refine (rend_at _ l 0 _ hl hv (by omega)).mono ?_; rintro e w' ⟨rfl, rfl⟩)
    go_ret
    exact ⟨ret_bool H.out.symm, rfl⟩
theorem rdepth_any (v : Value) (l : List Tm) (E : Ex) (w : World) (hl : l.length ≤ 1000) (hv : Hid (Terms w v l)) (hp : Hid (parse l = some E)) :
    Calls Try.prog 47 #[v] w fun e w' => e = .returned (.int .i64 E.dp) ∧ Below w.heap.size w w' := by
  have H : oneB l = true := by unfold oneB; rw [hp.out]; rfl
  go_enter Try.func47, Try.ntmps47
  go_wp2_with (first | (go_at_call 46; refine (one_any _ l _ hl hv).mono ?_; rintro e w' ⟨rfl, rfl⟩) | (go_at_call 65; refine (rlevels_any _ l E _ hl hv hp).mono ?_; rintro e w' ⟨rfl, hb⟩))
  go_ret
  exact ⟨rfl, hb⟩
theorem rnest_any (v : Value) (l : List Tm) (E : Ex) (w : World) (hl : l.length ≤ 1000) (hv : Hid (Terms w v l)) (hp : Hid (parse l = some E)) :
    Calls Try.prog 48 #[v] w fun e w' => e = .returned (.int .i64 E.ns) ∧ Below w.heap.size w w' := by
  have H : oneB l = true := by unfold oneB; rw [hp.out]; rfl
  go_enter Try.func48, Try.ntmps48
  go_wp2_with (first | (go_at_call 46; refine (one_any _ l _ hl hv).mono ?_; rintro e w' ⟨rfl, rfl⟩) | (go_at_call 65; refine (rlevels_any _ l E _ hl hv hp).mono ?_; rintro e w' ⟨rfl, hb⟩))
  go_ret
  exact ⟨rfl, hb⟩

theorem valid_none {l : List Tm} (vars : Int) (h : parse l = none) : validB l vars = false := by unfold validB; rw [h]
theorem valid_long {l : List Tm} (vars : Int) (h : 200 < l.length) : validB l vars = false := by
  unfold validB
  cases parse l with
  | none => rfl
  | some E => simp; omega
theorem valid_arg {l : List Tm} (vars : Int) (k : Nat) (hk : k < l.length) (h : argB vars l[k] = false) : validB l vars = false := by
  unfold validB
  cases parse l with
  | none => rfl
  | some E =>
    have : l.all (argB vars) = false := by rw [List.all_eq_false]; exact ⟨l[k], List.getElem_mem hk, by simp [h]⟩
    simp only [this, Bool.false_and, Bool.and_false]
theorem valid_rest {l : List Tm} (vars : Int) (E : Ex) (hp : parse l = some E) (h : l.length ≤ 200) (ha : (l.take l.length).all (argB vars) = true) : validB l vars = (decide (E.dp ≤ 24) && decide (E.ns ≤ 2)) := by
  rw [List.take_length] at ha
  unfold validB; rw [hp]; simp [ha, h]
theorem valid_deep {l : List Tm} (vars : Int) (E : Ex) (hp : parse l = some E) (h : 24 < E.dp ∨ 2 < E.ns) : validB l vars = false := by
  unfold validB; rw [hp]
  rcases h with h | h <;> simp <;> omega
theorem args_snoc (l : List Tm) (vars : Int) (k : Nat) (h : k < l.length) (ha : (l.take k).all (argB vars) = true) (hw : argB vars l[k] = true) : (l.take (k + 1)).all (argB vars) = true := by
  rw [List.take_succ_eq_append_getElem h, List.all_append, ha]; simp [hw]

set_option maxHeartbeats 2000000 in
theorem valid_any (v : Value) (l : List Tm) (vars : Int) (w : World) (hl : l.length ≤ 1000) (hv : Hid (Terms w v l)) :
    Calls Try.prog 21 #[v, .int .i64 vars] w fun e w' => e = .returned (.bool (validB l vars)) ∧ Below w.heap.size w w' := by
  obtain ⟨a0, cap0, rfl, h1, h2, h3⟩ := hv.out.open
  have HC := Lib.hid h3
  clear h3
  by_cases h200 : 200 < l.length
  · have H := Lib.hid (valid_long vars h200)
    go_enter Try.func21, Try.ntmps21
    go_wp2_with fail
    go_ret
    exact ⟨ret_bool H.out.symm, Below.refl _ _⟩
  cases hp : parse l with
  | none =>
    have H := Lib.hid (valid_none vars hp)
    obtain ⟨he, _⟩ := endEq l hp
    clear hp
    go_enter Try.func21, Try.ntmps21
    go_wp2_with (go_at_call 32; refine (end_at _ l 0 _ hl hv (by omega)).mono ?_; rintro e w' ⟨rfl, rfl⟩)
    go_ret
    exact ⟨ret_bool H.out.symm, Below.refl _ _⟩
  | some E =>
    have HP := Lib.hid hp
    obtain ⟨he, _⟩ := endNe l E hp
    clear hp
    go_enter Try.func21, Try.ntmps21
    go_wp2_with (go_at_call 32; refine (end_at _ l 0 _ hl hv (by omega)).mono ?_; rintro e w' ⟨rfl, rfl⟩)
    go_loopw [6, 19] (fun _ i wr => ∃ k : Nat, k ≤ l.length ∧ i = .int .i64 k ∧ Hid ((l.take k).all (argB vars) = true) ∧ Below w.heap.size w wr) (fun _ i _ => l.length - (intOf i).toNat)
    case atStart => exact ⟨0, by omega, rfl, rfl, Below.refl _ _⟩
    case round =>
      obtain ⟨k, hk, rfl, ha, hbel⟩ := hrel
      by_cases hlt : k < l.length
      · obtain ⟨g, o, rfl, hg, hc⟩ := HC.out (by omega)
        obtain ⟨c0, c1⟩ := hc k _ (List.getElem?_eq_getElem hlt)
        rw [← hbel.cell (p := ⟨g, _, none⟩) hg] at c0 c1
        clear hc
        have hbs := hbel.size
        rcases Bool.eq_false_or_eq_true (argB vars l[k]) with hw | hw
        · have H := Lib.hid (args_snoc l vars k hlt ha.out hw)
          go_wp2_with (go_at_call 33; refine (argument_any l[k] vars _).mono ?_; rintro e w1 ⟨rfl, hb1⟩)
          exact ⟨⟨k + 1, by omega, by go_num, H, (hbel.alloc hbs _).trans (hb1.mono (by simp; omega))⟩, by simp [intOf]; omega⟩
        · have H := Lib.hid (valid_arg vars k hlt hw)
          go_wp2_with (go_at_call 33; refine (argument_any l[k] vars _).mono ?_; rintro e w1 ⟨rfl, hb1⟩)
          go_ret
          exact ⟨ret_bool H.out.symm, (hbel.alloc hbs _).trans (hb1.mono (by simp; omega))⟩
      · obtain rfl : k = l.length := by omega
        have H := Lib.hid (valid_rest vars E HP.out (by omega) ha.out)
        have HD : Hid (depthV l = E.dp) := by unfold depthV; rw [HP.out]; rfl
        have HN : Hid (nestV l = E.ns) := by unfold nestV; rw [HP.out]; rfl
        by_cases hd : depthV l ≤ 24
        all_goals
          go_wp2_with (first | (go_at_call 34; refine (depth_any _ l _ hl (hv.out.below hbel)).mono ?_; rintro e w1 ⟨rfl, hb1⟩) | (go_at_call 35; refine (nest_any _ l _ hl (hv.out.below (bthen hbel hb1))).mono ?_; rintro e w2 ⟨rfl, hb2⟩))
          go_ret
        · refine ⟨ret_bool ?_, bthen (bthen hbel hb1) hb2⟩
          rw [H.out, ← HD.out, ← HN.out]; simp [hd]; omega
        · refine ⟨ret_bool ?_, bthen hbel hb1⟩
          rw [H.out, ← HD.out]; simp; omega

set_option maxHeartbeats 2000000 in
theorem rvalid_any (v : Value) (l : List Tm) (vars : Int) (w : World) (hl : l.length ≤ 1000) (hv : Hid (Terms w v l)) :
    Calls Try.prog 30 #[v, .int .i64 vars] w fun e w' => e = .returned (.bool (validB l vars)) ∧ Below w.heap.size w w' := by
  obtain ⟨a0, cap0, rfl, h1, h2, h3⟩ := hv.out.open
  have HC := Lib.hid h3
  clear h3
  by_cases h200 : 200 < l.length
  · have H := Lib.hid (valid_long vars h200)
    go_enter Try.func30, Try.ntmps30
    go_wp2_with fail
    go_ret
    exact ⟨ret_bool H.out.symm, Below.refl _ _⟩
  cases hp : parse l with
  | none =>
    have H := Lib.hid (valid_none vars hp)
    have h1 : oneB l = false := by unfold oneB; rw [hp]; rfl
    clear hp
    go_enter Try.func30, Try.ntmps30
    go_wp2_with (go_at_call 46; refine (one_any _ l _ hl hv).mono ?_; rintro e w' ⟨rfl, rfl⟩)
    go_ret
    exact ⟨ret_bool H.out.symm, Below.refl _ _⟩
  | some E =>
    have HP := Lib.hid hp
    have h1 : oneB l = true := by unfold oneB; rw [hp]; rfl
    clear hp
    by_cases hd : 24 < E.dp
    · have H := Lib.hid (valid_deep vars E HP.out (.inl hd))
      go_enter Try.func30, Try.ntmps30
      go_wp2_with (first | (go_at_call 46; refine (one_any _ l _ hl hv).mono ?_; rintro e w' ⟨rfl, rfl⟩) | (go_at_call 47; refine (rdepth_any _ l E _ hl hv HP).mono ?_; rintro e w1 ⟨rfl, hb1⟩))
      go_ret
      exact ⟨ret_bool H.out.symm, hb1⟩
    by_cases hn : 2 < E.ns
    · have H := Lib.hid (valid_deep vars E HP.out (.inr hn))
      go_enter Try.func30, Try.ntmps30
      go_wp2_with (first | (go_at_call 46; refine (one_any _ l _ hl hv).mono ?_; rintro e w' ⟨rfl, rfl⟩) | (go_at_call 47; refine (rdepth_any _ l E _ hl hv HP).mono ?_; rintro e w1 ⟨rfl, hb1⟩) | (go_at_call 48; refine (rnest_any _ l E _ hl (hv.out.below hb1) HP).mono ?_; rintro e w2 ⟨rfl, hb2⟩))
      go_ret
      exact ⟨ret_bool H.out.symm, bthen hb1 hb2⟩
    have b1 : decide (24 < E.dp) = false := by simp; omega
    have b2 : decide (2 < E.ns) = false := by simp; omega
    have b3 : decide (24 < (E.dp : Int)) = false := by simp; omega
    have b4 : decide (2 < (E.ns : Int)) = false := by simp; omega
    have b5 : decide (200 < (l.length : Int)) = false := by simp; omega
    go_enter Try.func30, Try.ntmps30
    go_wp2_with (first | (go_at_call 46; refine (one_any _ l _ hl hv).mono ?_; rintro e w' ⟨rfl, rfl⟩) | (go_at_call 47; refine (rdepth_any _ l E _ hl hv HP).mono ?_; rintro e w1 ⟨rfl, hb1⟩) | (go_at_call 48; refine (rnest_any _ l E _ hl (hv.out.below hb1) HP).mono ?_; rintro e w2 ⟨rfl, hb2⟩))
    have hb := bthen hb1 hb2
    go_loopw [5] (fun i wr => ∃ k : Nat, k ≤ l.length ∧ i = .int .i64 k ∧ Hid ((l.take k).all (argB vars) = true) ∧ Below w.heap.size w wr) (fun i _ => l.length - (intOf i).toNat)
    case atStart => exact ⟨0, by omega, rfl, rfl, hb⟩
    case round =>
      obtain ⟨k, hk, rfl, ha, hbel⟩ := hrel
      by_cases hlt : k < l.length
      · obtain ⟨g, o, rfl, hg, hc⟩ := HC.out (by omega)
        obtain ⟨c0, c1⟩ := hc k _ (List.getElem?_eq_getElem hlt)
        rw [← hbel.cell (p := ⟨g, _, none⟩) hg] at c0 c1
        clear hc
        have hbs := hbel.size
        rcases Bool.eq_false_or_eq_true (argB vars l[k]) with hw | hw
        · have H := Lib.hid (args_snoc l vars k hlt ha.out hw)
          go_wp2_with (go_at_call 49; refine (rargument_any l[k] vars _).mono ?_; rintro e w3 ⟨rfl, hb3⟩)
          exact ⟨⟨k + 1, by omega, by go_num, H, bthen hbel hb3⟩, by simp [intOf]; omega⟩
        · have H := Lib.hid (valid_arg vars k hlt hw)
          go_wp2_with (go_at_call 49; refine (rargument_any l[k] vars _).mono ?_; rintro e w3 ⟨rfl, hb3⟩)
          go_ret
          exact ⟨ret_bool H.out.symm, bthen hbel hb3⟩
      · obtain rfl : k = l.length := by omega
        have H := Lib.hid (valid_rest vars E HP.out (by omega) ha.out)
        go_wp2_with fail
        go_ret
        refine ⟨ret_bool ?_, hbel⟩
        rw [H.out]; simp; omega
end Go.Proofs.Ytogennegbihceaa
