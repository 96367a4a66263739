/- Part 2 of the texts under TopInformationTravelsOneLink: joined, with what it needs alone. -/
import Derived.Below
import Derived.Test.YtgpbgfpjlhoicaaGreatDoorRows
import Derived.WalkKit
import Derived.WalkSpells
import Derived.WalkLawsBesides
import Derived.Lib.Hide
import Derived.Maps.OwnOps
import Derived.Maps.OwnSet
import Derived.Maps.Views
import Derived.StringKeys
import Derived.Deep.QuietTactic
import Derived.BigQuiet
import Derived.Test.YtgpbgfpjlhoicaaGreatDoorIL1
set_option maxRecDepth 100000
namespace Go.Proofs.YtgpbgfpjlhoicaaGreatDoor
section
open Go.RowKit
def zmi (l : List Tm) : Bool := (yex l).isSome
theorem zuc (l : List Tm) (E : Ex) (h : yex l = some E) : (ype 1 0 l != (l.length : Int)) = false ∧ (ype 1 0 l == (l.length : Int)) = true := by
 rw [(ywq l).2 ⟨E, h⟩]; simp
theorem zub (l : List Tm) (h : yex l = none) : (ype 1 0 l != (l.length : Int)) = true ∧ (ype 1 0 l == (l.length : Int)) = false := by
 have : ype 1 0 l ≠ (l.length : Int) := fun hq => by
  obtain ⟨E, hE⟩ := (ywq l).1 hq
  rw [h] at hE; cases hE
 simp [this]
theorem yte (v : Value) (l : List Tm) (w : World) (hl : l.length ≤ 1000) (hv : Hid (yde w v l)) :
  Calls Tryz.prog 307 #[v] w fun e w' => e = .returned (.bool (zmi l)) ∧ w = w' := by
 obtain ⟨a0, cap0, rfl, h1, h2, h3⟩ := hv.out.open
 clear h3
 cases hp : yex l with
 | none =>
  have H : Hid (zmi l = false) := by unfold zmi; rw [hp]; rfl
  obtain ⟨_, he⟩ := zub l hp
  clear hp
  by_cases h0 : 0 < l.length
  all_goals
   go_enter Tryz.func307, Tryz.ntmps307
   go_wp2_with (go_at_call 294; refine (ynt _ l 0 _ hl hv (by omega)).mono ?_; rintro e w' ⟨rfl, rfl⟩)
   go_ret
   exact ⟨yab H.out.symm, rfl⟩
 | some E =>
  have H : Hid (zmi l = true) := by unfold zmi; rw [hp]; rfl
  have h0 : 0 < l.length := by rw [← (ygk hp).2]; exact E.fl_pos
  obtain ⟨_, he⟩ := zuc l E hp
  clear hp
  go_enter Tryz.func307, Tryz.ntmps307
  go_wp2_with (go_at_call 294; refine (ynt _ l 0 _ hl hv (by omega)).mono ?_; rintro e w' ⟨rfl, rfl⟩)
  go_ret
  exact ⟨yab H.out.symm, rfl⟩
theorem yti (v : Value) (l : List Tm) (E : Ex) (w : World) (hl : l.length ≤ 1000) (hv : Hid (yde w v l)) (hp : Hid (yex l = some E)) :
  Calls Tryz.prog 308 #[v] w fun e w' => e = .returned (.int .i64 E.dp) ∧ Below w.heap.size w w' := by
 have H : zmi l = true := by unfold zmi; rw [hp.out]; rfl
 go_enter Tryz.func308, Tryz.ntmps308
 go_wp2_with (first | (go_at_call 307; refine (yte _ l _ hl hv).mono ?_; rintro e w' ⟨rfl, rfl⟩) | (go_at_call 320; refine (yyd _ l E _ hl hv hp).mono ?_; rintro e w' ⟨rfl, hb⟩))
 go_ret
 exact ⟨rfl, hb⟩
theorem zgm (v : Value) (l : List Tm) (E : Ex) (w : World) (hl : l.length ≤ 1000) (hv : Hid (yde w v l)) (hp : Hid (yex l = some E)) :
  Calls Tryz.prog 309 #[v] w fun e w' => e = .returned (.int .i64 E.ns) ∧ Below w.heap.size w w' := by
 have H : zmi l = true := by unfold zmi; rw [hp.out]; rfl
 go_enter Tryz.func309, Tryz.ntmps309
 go_wp2_with (first | (go_at_call 307; refine (yte _ l _ hl hv).mono ?_; rintro e w' ⟨rfl, rfl⟩) | (go_at_call 320; refine (yyd _ l E _ hl hv hp).mono ?_; rintro e w' ⟨rfl, hb⟩))
 go_ret
 exact ⟨rfl, hb⟩
theorem zbl {l : List Tm} (vars : Int) (h : yex l = none) : ydc l vars = false := by unfold ydc; rw [h]
theorem zbk {l : List Tm} (vars : Int) (h : 200 < l.length) : ydc l vars = false := by
 unfold ydc
 cases yex l with
 | none => rfl
 | some E => simp; omega
theorem zhe {l : List Tm} (vars : Int) (k : Nat) (hk : k < l.length) (h : yqc vars l[k] = false) : ydc l vars = false := by
 unfold ydc
 cases yex l with
 | none => rfl
 | some E =>
  have : l.all (yqc vars) = false := by rw [List.all_eq_false]; exact ⟨l[k], List.getElem_mem hk, by simp [h]⟩
  simp only [this, Bool.false_and, Bool.and_false]
theorem zbm {l : List Tm} (vars : Int) (E : Ex) (hp : yex l = some E) (h : l.length ≤ 200) (ha : (l.take l.length).all (yqc vars) = true) : ydc l vars = (decide (E.dp ≤ 24) && decide (E.ns ≤ 2)) := by
 rw [List.take_length] at ha
 unfold ydc; rw [hp]; simp [ha, h]
theorem zbj {l : List Tm} (vars : Int) (E : Ex) (hp : yex l = some E) (h : 24 < E.dp ∨ 2 < E.ns) : ydc l vars = false := by
 unfold ydc; rw [hp]
 rcases h with h | h <;> simp <;> omega
theorem zeb (l : List Tm) (vars : Int) (k : Nat) (h : k < l.length) (ha : (l.take k).all (yqc vars) = true) (hw : yqc vars l[k] = true) : (l.take (k + 1)).all (yqc vars) = true := by
 rw [List.take_succ_eq_append_getElem h, List.all_append, ha]; simp [hw]
set_option maxHeartbeats 2000000 in
theorem yjn (v : Value) (l : List Tm) (vars : Int) (w : World) (hl : l.length ≤ 1000) (hv : Hid (yde w v l)) :
  Calls Tryz.prog 143 #[v, .int .i64 vars] w fun e w' => e = .returned (.bool (ydc l vars)) ∧ Below w.heap.size w w' := by
 obtain ⟨a0, cap0, rfl, h1, h2, h3⟩ := hv.out.open
 have HC := Lib.hid h3
 clear h3
 by_cases h200 : 200 < l.length
 ·have H := Lib.hid (zbk vars h200)
  go_enter Tryz.func143, Tryz.ntmps143
  go_wp2_with fail
  go_ret
  exact ⟨yab H.out.symm, Below.refl _ _⟩
 cases hp : yex l with
 | none =>
  have H := Lib.hid (zbl vars hp)
  obtain ⟨he, _⟩ := zub l hp
  clear hp
  go_enter Tryz.func143, Tryz.ntmps143
  go_wp2_with (go_at_call 197; refine (yzs _ l 0 _ hl hv (by omega)).mono ?_; rintro e w' ⟨rfl, rfl⟩)
  go_ret
  exact ⟨yab H.out.symm, Below.refl _ _⟩
 | some E =>
  have HP := Lib.hid hp
  obtain ⟨he, _⟩ := zuc l E hp
  clear hp
  go_enter Tryz.func143, Tryz.ntmps143
  go_wp2_with (go_at_call 197; refine (yzs _ l 0 _ hl hv (by omega)).mono ?_; rintro e w' ⟨rfl, rfl⟩)
  go_loopw [6, 19] (fun _ i wr => ∃ k : Nat, k ≤ l.length ∧ i = .int .i64 k ∧ Hid ((l.take k).all (yqc vars) = true) ∧ Below w.heap.size w wr) (fun _ i _ => l.length - (intOf i).toNat)
  case atStart => exact ⟨0, by omega, rfl, rfl, Below.refl _ _⟩
  case round =>
   obtain ⟨k, hk, rfl, ha, hbel⟩ := hrel
   by_cases hlt : k < l.length
   ·obtain ⟨g, o, rfl, hg, hc⟩ := HC.out (by omega)
    obtain ⟨c0, c1⟩ := hc k _ (List.getElem?_eq_getElem hlt)
    rw [← hbel.cell (p := ⟨g, _, none⟩) hg] at c0 c1
    clear hc
    have hbs := hbel.size
    rcases Bool.eq_false_or_eq_true (yqc vars l[k]) with hw | hw
    ·have H := Lib.hid (zeb l vars k hlt ha.out hw)
     go_wp2_with (go_at_call 198; refine (ytz l[k] vars _).mono ?_; rintro e w1 ⟨rfl, hb1⟩)
     exact ⟨⟨k + 1, by omega, by go_num, H, (hbel.alloc hbs _).trans (hb1.mono (by simp; omega))⟩, by simp [intOf]; omega⟩
    ·have H := Lib.hid (zhe vars k hlt hw)
     go_wp2_with (go_at_call 198; refine (ytz l[k] vars _).mono ?_; rintro e w1 ⟨rfl, hb1⟩)
     go_ret
     exact ⟨yab H.out.symm, (hbel.alloc hbs _).trans (hb1.mono (by simp; omega))⟩
   ·obtain rfl : k = l.length := by omega
    have H := Lib.hid (zbm vars E HP.out (by omega) ha.out)
    have HD : Hid (yuc l = E.dp) := by unfold yuc; rw [HP.out]; rfl
    have HN : Hid (zie l = E.ns) := by unfold zie; rw [HP.out]; rfl
    by_cases hd : yuc l ≤ 24
    all_goals
     go_wp2_with (first | (go_at_call 199; refine (depth_any _ l _ hl (hv.out.below hbel)).mono ?_; rintro e w1 ⟨rfl, hb1⟩) | (go_at_call 200; refine (nest_any _ l _ hl (hv.out.below (yeg hbel hb1))).mono ?_; rintro e w2 ⟨rfl, hb2⟩))
     go_ret
    ·refine ⟨yab ?_, yeg (yeg hbel hb1) hb2⟩
     rw [H.out, ← HD.out, ← HN.out]; simp [hd]; omega
    ·refine ⟨yab ?_, yeg hbel hb1⟩
     rw [H.out, ← HD.out]; simp; omega
set_option maxHeartbeats 2000000 in
theorem yov (v : Value) (l : List Tm) (vars : Int) (w : World) (hl : l.length ≤ 1000) (hv : Hid (yde w v l)) :
  Calls Tryz.prog 286 #[v, .int .i64 vars] w fun e w' => e = .returned (.bool (ydc l vars)) ∧ Below w.heap.size w w' := by
 obtain ⟨a0, cap0, rfl, h1, h2, h3⟩ := hv.out.open
 have HC := Lib.hid h3
 clear h3
 by_cases h200 : 200 < l.length
 ·have H := Lib.hid (zbk vars h200)
  go_enter Tryz.func286, Tryz.ntmps286
  go_wp2_with fail
  go_ret
  exact ⟨yab H.out.symm, Below.refl _ _⟩
 cases hp : yex l with
 | none =>
  have H := Lib.hid (zbl vars hp)
  have h1 : zmi l = false := by unfold zmi; rw [hp]; rfl
  clear hp
  go_enter Tryz.func286, Tryz.ntmps286
  go_wp2_with (go_at_call 307; refine (yte _ l _ hl hv).mono ?_; rintro e w' ⟨rfl, rfl⟩)
  go_ret
  exact ⟨yab H.out.symm, Below.refl _ _⟩
 | some E =>
  have HP := Lib.hid hp
  have h1 : zmi l = true := by unfold zmi; rw [hp]; rfl
  clear hp
  by_cases hd : 24 < E.dp
  ·have H := Lib.hid (zbj vars E HP.out (.inl hd))
   go_enter Tryz.func286, Tryz.ntmps286
   go_wp2_with (first | (go_at_call 307; refine (yte _ l _ hl hv).mono ?_; rintro e w' ⟨rfl, rfl⟩) | (go_at_call 308; refine (yti _ l E _ hl hv HP).mono ?_; rintro e w1 ⟨rfl, hb1⟩))
   go_ret
   exact ⟨yab H.out.symm, hb1⟩
  by_cases hn : 2 < E.ns
  ·have H := Lib.hid (zbj vars E HP.out (.inr hn))
   go_enter Tryz.func286, Tryz.ntmps286
   go_wp2_with (first | (go_at_call 307; refine (yte _ l _ hl hv).mono ?_; rintro e w' ⟨rfl, rfl⟩) | (go_at_call 308; refine (yti _ l E _ hl hv HP).mono ?_; rintro e w1 ⟨rfl, hb1⟩) | (go_at_call 309; refine (zgm _ l E _ hl (hv.out.below hb1) HP).mono ?_; rintro e w2 ⟨rfl, hb2⟩))
   go_ret
   exact ⟨yab H.out.symm, yeg hb1 hb2⟩
  have b1 : decide (24 < E.dp) = false := by simp; omega
  have b2 : decide (2 < E.ns) = false := by simp; omega
  have b3 : decide (24 < (E.dp : Int)) = false := by simp; omega
  have b4 : decide (2 < (E.ns : Int)) = false := by simp; omega
  have b5 : decide (200 < (l.length : Int)) = false := by simp; omega
  go_enter Tryz.func286, Tryz.ntmps286
  go_wp2_with (first | (go_at_call 307; refine (yte _ l _ hl hv).mono ?_; rintro e w' ⟨rfl, rfl⟩) | (go_at_call 308; refine (yti _ l E _ hl hv HP).mono ?_; rintro e w1 ⟨rfl, hb1⟩) | (go_at_call 309; refine (zgm _ l E _ hl (hv.out.below hb1) HP).mono ?_; rintro e w2 ⟨rfl, hb2⟩))
  have hb := yeg hb1 hb2
  go_loopw [5] (fun i wr => ∃ k : Nat, k ≤ l.length ∧ i = .int .i64 k ∧ Hid ((l.take k).all (yqc vars) = true) ∧ Below w.heap.size w wr) (fun i _ => l.length - (intOf i).toNat)
  case atStart => exact ⟨0, by omega, rfl, rfl, hb⟩
  case round =>
   obtain ⟨k, hk, rfl, ha, hbel⟩ := hrel
   by_cases hlt : k < l.length
   ·obtain ⟨g, o, rfl, hg, hc⟩ := HC.out (by omega)
    obtain ⟨c0, c1⟩ := hc k _ (List.getElem?_eq_getElem hlt)
    rw [← hbel.cell (p := ⟨g, _, none⟩) hg] at c0 c1
    clear hc
    have hbs := hbel.size
    rcases Bool.eq_false_or_eq_true (yqc vars l[k]) with hw | hw
    ·have H := Lib.hid (zeb l vars k hlt ha.out hw)
     go_wp2_with (go_at_call 310; refine (yry l[k] vars _).mono ?_; rintro e w3 ⟨rfl, hb3⟩)
     exact ⟨⟨k + 1, by omega, by go_num, H, yeg hbel hb3⟩, by simp [intOf]; omega⟩
    ·have H := Lib.hid (zhe vars k hlt hw)
     go_wp2_with (go_at_call 310; refine (yry l[k] vars _).mono ?_; rintro e w3 ⟨rfl, hb3⟩)
     go_ret
     exact ⟨yab H.out.symm, yeg hbel hb3⟩
   ·obtain rfl : k = l.length := by omega
    have H := Lib.hid (zbm vars E HP.out (by omega) ha.out)
    go_wp2_with fail
    go_ret
    refine ⟨yab ?_, hbel⟩
    rw [H.out]; simp; omega
end
section
open Go.RowKit
def yql (k : Int) : Bool := decide (k = 1) || (decide (k = 2) || decide (k = 3))
theorem ydb (k : Int) (w : World) : Calls Tryz.prog 201 #[.int .i64 k] w fun e w' => e = .returned (.bool (yql k)) ∧ w = w' := by
 go_enter Tryz.func201, Tryz.ntmps201
 go_wp2
 all_goals go_ret
 all_goals refine ⟨yab ?_, rfl⟩
 all_goals (rw [Bool.eq_iff_iff]; simp [yql]; try omega)
theorem yld (k : Int) (w : World) : Calls Tryz.prog 285 #[.int .i64 k] w fun e w' => e = .returned (.bool (yql k)) ∧ w = w' := by
 go_enter Tryz.func285, Tryz.ntmps285
 go_wp2
 all_goals go_ret
 all_goals refine ⟨yab ?_, rfl⟩
 all_goals (rw [Bool.eq_iff_iff]; simp [yql]; try omega)
theorem ifTrue_any (c : Bool) (k : Int) (w : World) : Calls Tryz.prog 270 #[.bool c, .int .i64 k] w fun e w' => e = .returned (.int .i64 (if c = true then k else 0)) ∧ w = w' := by
 cases c
 all_goals
  go_enter Tryz.func270, Tryz.ntmps270
  go_wp2
  go_ret
  exact ⟨ybh (by simp), rfl⟩
def zgk (op a b c : Int) : Int := if ar op = 1 then ty1 op a else if ar op = 2 then ty2 op a b else ty3 a b c
set_option maxHeartbeats 4000000 in
theorem ytm (op a b c : Int) (w : World) (h1 : 18 ≤ op) (h2 : op ≤ 43) :
  Calls Tryz.prog 244 #[.int .i64 op, .agg #[.int .i64 a, .int .i64 b, .int .i64 c]] w fun e w' => e = .returned (.int .i64 (zgk op a b c)) ∧ Below w.heap.size w w' := by
 have hop : op = 18 ∨ op = 19 ∨ op = 20 ∨ op = 21 ∨ op = 22 ∨ op = 23 ∨ op = 24 ∨ op = 25 ∨ op = 26 ∨ op = 27 ∨ op = 28 ∨ op = 29 ∨ op = 30 ∨ op = 31 ∨ op = 32 ∨ op = 33 ∨ op = 34 ∨ op = 35 ∨ op = 36 ∨ op = 37 ∨ op = 38 ∨ op = 39 ∨ op = 40 ∨ op = 41 ∨ op = 42 ∨ op = 43 := by omega
 rcases hop with rfl | rfl | rfl | rfl | rfl | rfl | rfl | rfl | rfl | rfl | rfl | rfl | rfl | rfl | rfl | rfl | rfl | rfl | rfl | rfl | rfl | rfl | rfl | rfl | rfl | rfl
 all_goals
  clear h1 h2
  go_enter Tryz.func244, Tryz.ntmps244
  go_wp2_with fail
  go_quiet (fail)
  go_wp2_with (go_at_call 270; refine (ifTrue_any _ _ _).mono ?_; rintro e w' ⟨rfl, rfl⟩)
  all_goals go_ret
  all_goals refine ⟨ybh ?_, below_drewN ((Below.refl _ _).alloc (Nat.le_refl _) _) _⟩
  all_goals try simp only [beq_iff_eq, beq_eq_false_iff_ne, bne_iff_ne, bne_eq_false_iff_eq, ne_eq] at *
  all_goals (simp [zgk, ar, ty1, ty2, ty3, *]; try omega)
theorem ysx (kinds : List Int) (i : Nat) (h : i < kinds.length) : kinds[i]? = some (kinds.getD i 0) := by
 rw [List.getD_eq_getElem?_getD, List.getElem?_eq_getElem h]; rfl
set_option maxHeartbeats 4000000 in
theorem leaf_any (ev kv : Value) (kinds : List Int) (op x : Int) (w : World) (hk : Hid (yna .i64 w kv kinds)) (h1 : 1 ≤ op) (h2 : op ≤ 17) (hx : op = 5 ∨ op = 12 → 0 ≤ x ∧ x < kinds.length) :
  Calls Tryz.prog 243 #[.agg #[ev, kv], .agg #[.int .i64 op, .int .i64 x]] w fun e w' => e = .returned (.int .i64 (yhx kinds (op, x))) ∧ Below w.heap.size w w' := by
 obtain ⟨a, cap, rfl, i1, i2, i3, i4⟩ := hk.out.open
 have HC := Lib.hid i4
 have HX := Lib.hid hx
 clear i4 hx i3
 have hop : op = 1 ∨ op = 2 ∨ op = 3 ∨ op = 4 ∨ op = 5 ∨ op = 6 ∨ op = 7 ∨ op = 8 ∨ op = 9 ∨ op = 10 ∨ op = 11 ∨ op = 12 ∨ op = 13 ∨ op = 14 ∨ op = 15 ∨ op = 16 ∨ op = 17 := by omega
 rcases hop with rfl | rfl | rfl | rfl | rfl | rfl | rfl | rfl | rfl | rfl | rfl | rfl | rfl | rfl | rfl | rfl | rfl
 all_goals clear h1 h2
 case inr.inr.inr.inr.inl =>
  obtain ⟨x0, x1⟩ := HX.out (by omega)
  obtain ⟨x, rfl⟩ := Int.eq_ofNat_of_zero_le x0
  obtain ⟨g, o, rfl, hg, hc⟩ := HC.out (by omega)
  have c0 := hc x _ (ysx kinds x (by omega))
  have hxl : x < kinds.length := by omega
  have HL := Lib.hid (show yhx kinds (5, (x : Int)) = kinds.getD x 0 by simp [yhx])
  clear hc x0 x1
  generalize kinds.getD x 0 = kx at *
  go_enter Tryz.func243, Tryz.ntmps243
  go_wp2_with fail
  go_ret
  refine ⟨ybh HL.out.symm, ?_⟩
  repeat (first | exact Below.refl _ _ | refine Below.alloc ?_ (by simp) _)
 case inr.inr.inr.inr.inr.inr.inr.inr.inr.inr.inr.inl =>
  obtain ⟨x0, x1⟩ := HX.out (by omega)
  obtain ⟨x, rfl⟩ := Int.eq_ofNat_of_zero_le x0
  obtain ⟨g, o, rfl, hg, hc⟩ := HC.out (by omega)
  have c0 := hc x _ (ysx kinds x (by omega))
  have hxl : x < kinds.length := by omega
  have HL := Lib.hid (show yhx kinds (12, (x : Int)) = kinds.getD x 0 by simp [yhx])
  clear hc x0 x1
  generalize kinds.getD x 0 = kx at *
  go_enter Tryz.func243, Tryz.ntmps243
  go_wp2_with fail
  go_ret
  refine ⟨ybh HL.out.symm, ?_⟩
  repeat (first | exact Below.refl _ _ | refine Below.alloc ?_ (by simp) _)
 all_goals
  go_enter Tryz.func243, Tryz.ntmps243
  go_wp2_with fail
  go_ret
  refine ⟨ybh (by simp [yhx]), ?_⟩
  repeat (first | exact Below.refl _ _ | refine Below.alloc ?_ (by simp) _)
set_option maxHeartbeats 4000000 in
theorem rsingle_any (op a : Int) (w : World) (h1 : 18 ≤ op) (h2 : op ≤ 29) :
  Calls Tryz.prog 312 #[.int .i64 op, .int .i64 a] w fun e w' => e = .returned (.int .i64 (ty1 op a)) ∧ w = w' := by
 have hop : op = 18 ∨ op = 19 ∨ op = 20 ∨ op = 21 ∨ op = 22 ∨ op = 23 ∨ op = 24 ∨ op = 25 ∨ op = 26 ∨ op = 27 ∨ op = 28 ∨ op = 29 := by omega
 rcases hop with rfl | rfl | rfl | rfl | rfl | rfl | rfl | rfl | rfl | rfl | rfl | rfl
 all_goals
  clear h1 h2
  go_enter Tryz.func312, Tryz.ntmps312
  go_wp2
  all_goals go_ret
  all_goals refine ⟨ybh ?_, rfl⟩
  all_goals try simp only [bne_iff_ne, bne_eq_false_iff_eq, ne_eq] at *
  all_goals (simp [ty1, *]; try omega)
set_option maxHeartbeats 4000000 in
theorem rdouble_any (op a b : Int) (w : World) (h1 : 30 ≤ op) (h2 : op ≤ 42) :
  Calls Tryz.prog 313 #[.int .i64 op, .int .i64 a, .int .i64 b] w fun e w' => e = .returned (.int .i64 (ty2 op a b)) ∧ w = w' := by
 have hop : op = 30 ∨ op = 31 ∨ op = 32 ∨ op = 33 ∨ op = 34 ∨ op = 35 ∨ op = 36 ∨ op = 37 ∨ op = 38 ∨ op = 39 ∨ op = 40 ∨ op = 41 ∨ op = 42 := by omega
 rcases hop with rfl | rfl | rfl | rfl | rfl | rfl | rfl | rfl | rfl | rfl | rfl | rfl | rfl
 all_goals
  clear h1 h2
  go_enter Tryz.func313, Tryz.ntmps313
  go_wp2
  all_goals go_ret
  all_goals refine ⟨ybh ?_, rfl⟩
  all_goals try simp only [beq_iff_eq, beq_eq_false_iff_ne, bne_iff_ne, bne_eq_false_iff_eq, ne_eq] at *
  all_goals (simp [ty2, *]; try omega)
set_option maxHeartbeats 4000000 in
theorem rleaf_any (kv : Value) (kinds : List Int) (op x : Int) (bound : Bool) (w : World) (hk : Hid (yna .i64 w kv kinds)) (h1 : 1 ≤ op) (h2 : op ≤ 17) (hx : op = 5 ∨ op = 12 → 0 ≤ x ∧ x < kinds.length) :
  Calls Tryz.prog 311 #[.agg #[.int .i64 op, .int .i64 x], kv, .bool bound] w fun e w' => e = .returned (.int .i64 (if zcv op && !bound then 0 else yhx kinds (op, x))) ∧ Below w.heap.size w w' := by
 obtain ⟨a, cap, rfl, i1, i2, i3, i4⟩ := hk.out.open
 have HC := Lib.hid i4
 have HX := Lib.hid hx
 clear i4 hx i3
 have hop : op = 1 ∨ op = 2 ∨ op = 3 ∨ op = 4 ∨ op = 5 ∨ op = 6 ∨ op = 7 ∨ op = 8 ∨ op = 9 ∨ op = 10 ∨ op = 11 ∨ op = 12 ∨ op = 13 ∨ op = 14 ∨ op = 15 ∨ op = 16 ∨ op = 17 := by omega
 rcases hop with rfl | rfl | rfl | rfl | rfl | rfl | rfl | rfl | rfl | rfl | rfl | rfl | rfl | rfl | rfl | rfl | rfl
 all_goals clear h1 h2
 case inr.inr.inr.inr.inl =>
  obtain ⟨x0, x1⟩ := HX.out (by omega)
  obtain ⟨x, rfl⟩ := Int.eq_ofNat_of_zero_le x0
  obtain ⟨g, o, rfl, hg, hc⟩ := HC.out (by omega)
  have c0 := hc x _ (ysx kinds x (by omega))
  have hxl : x < kinds.length := by omega
  have HL := Lib.hid (show yhx kinds (5, (x : Int)) = kinds.getD x 0 by simp [yhx])
  clear hc x0 x1
  generalize kinds.getD x 0 = kx at *
  cases bound
  all_goals
   go_enter Tryz.func311, Tryz.ntmps311
   go_wp2_with fail
   go_ret
   refine ⟨ybh (by simp [HL.out]), ?_⟩
   repeat (first | exact Below.refl _ _ | refine Below.alloc ?_ (by simp) _)
 case inr.inr.inr.inr.inr.inr.inr.inr.inr.inr.inr.inl =>
  obtain ⟨x0, x1⟩ := HX.out (by omega)
  obtain ⟨x, rfl⟩ := Int.eq_ofNat_of_zero_le x0
  obtain ⟨g, o, rfl, hg, hc⟩ := HC.out (by omega)
  have c0 := hc x _ (ysx kinds x (by omega))
  have hxl : x < kinds.length := by omega
  have HL := Lib.hid (show yhx kinds (12, (x : Int)) = kinds.getD x 0 by simp [yhx])
  clear hc x0 x1
  generalize kinds.getD x 0 = kx at *
  cases bound
  all_goals
   go_enter Tryz.func311, Tryz.ntmps311
   go_wp2_with fail
   go_ret
   refine ⟨ybh (by simp [HL.out]), ?_⟩
   repeat (first | exact Below.refl _ _ | refine Below.alloc ?_ (by simp) _)
 all_goals
  cases bound
  all_goals
   go_enter Tryz.func311, Tryz.ntmps311
   go_wp2_with fail
   go_ret
   refine ⟨ybh (by simp [yhx]), ?_⟩
   repeat (first | exact Below.refl _ _ | refine Below.alloc ?_ (by simp) _)
end
section
open Go.RowKit
theorem znk {op : Int} (h : ar op = 0) : 1 ≤ op ∧ op ≤ 17 := by
 unfold ar at h; (repeat' split at h) <;> omega
theorem zrg {op : Int} (h : ar op = 1) : 18 ≤ op ∧ op ≤ 29 := by
 unfold ar at h; (repeat' split at h) <;> omega
theorem zrh {op : Int} (h : ar op = 2) : 30 ≤ op ∧ op ≤ 42 := by
 unfold ar at h; (repeat' split at h) <;> omega
theorem ar_three {op : Int} (h : ar op = 3) : op = 43 := by
 unfold ar at h; (repeat' split at h) <;> omega
theorem zjh {kinds : List Int} {t : Tm} (h : yqc kinds.length t = true) : t.1 = 5 ∨ t.1 = 12 → 0 ≤ t.2 ∧ t.2 < kinds.length := by
 intro h5
 unfold yqc at h
 rw [if_neg (by omega), if_pos h5] at h
 simpa using h
theorem yhm {l : List Tm} {p : Nat} {t : Tm} {r : List Tm} (h : l.drop p = t :: r) : p < l.length ∧ l[p]? = some t ∧ l.drop (p + 1) = r := by
 have h1 : p < l.length := by
  rcases Nat.lt_or_ge p l.length with h1 | h1
  ·exact h1
  ·rw [List.drop_eq_nil_of_le h1] at h; cases h
 rw [List.drop_eq_getElem_cons h1] at h
 simp only [List.cons.injEq] at h
 exact ⟨h1, by rw [List.getElem?_eq_getElem h1, h.1], h.2⟩
def ReadRet (kinds : List Int) (bound : Bool) (E : Ex) (p : Nat) (w : World) (e : Ending) (w' : World) : Prop :=
 e = .returned (.tuple #[.int .i64 (ty kinds bound E), .int .i64 ((p + E.fl.length : Nat) : Int)]) ∧ Below w.heap.size w w'
def yix (ev kv : Value) (l : List Tm) (kinds : List Int) (E : Ex) : Prop :=
 ∀ (p : Nat) (r : List Tm) (bound : Bool) (w : World), l.drop p = E.fl ++ r → yde w ev l → yna .i64 w kv kinds →
  Calls Tryz.prog 202 #[.agg #[ev, kv], .int .i64 p, .bool bound] w (ReadRet kinds bound E p w)
set_option maxHeartbeats 1000000 in
theorem read_leaf (ev kv : Value) (l : List Tm) (kinds : List Int) (t : Tm) (hl : l.length ≤ 1000) (h0 : ar t.1 = 0) (ha : Hid (yqc kinds.length t = true)) : yix ev kv l kinds (.lf t) := by
 intro p r bound w hd ht hk
 obtain ⟨a0, cap0, rfl, h1, h2, h3⟩ := ht.open
 obtain ⟨hp, hpt, _⟩ := yhm hd
 obtain ⟨g, o, rfl, hg, hc⟩ := h3 (by omega)
 obtain ⟨c0, c1⟩ := hc p t hpt
 obtain ⟨h11, h17⟩ := znk h0
 have HT := Lib.hid ht
 have HK := Lib.hid hk
 have HR : Hid (ty kinds bound (.lf t) = if zcv t.1 && !bound then 0 else yhx kinds t) := rfl
 have hz : (ar t.1 == 0) = true := by rw [h0]; rfl
 have hlen : Hid ((Ex.lf t).fl.length = 1) := rfl
 clear hc h3 hpt hd ht hk h0
 obtain ⟨op, x⟩ := t
 simp only at *
 rcases Bool.eq_false_or_eq_true (zcv op) with hn | hn <;> cases bound
 all_goals
  go_enter Tryz.func202, Tryz.ntmps202
  go_wp2_with (first | (go_at_call 237; refine (ygo _ _).mono ?_; rintro e w' ⟨rfl, rfl⟩) | (go_at_call 242; refine (near_any _ _).mono ?_; rintro e w' ⟨rfl, rfl⟩) | (go_at_call 243; refine (leaf_any _ _ kinds op x _ (by exact yna.below HK.out (by repeat (first | exact Below.refl _ _ | refine Below.alloc ?_ (by simp) _))) h11 h17 (zjh ha.out)).mono ?_; rintro e w1 ⟨rfl, hb1⟩))
  go_ret2
  refine ⟨by rw [HR.out, hlen.out]; simp [hn], ?_⟩
  first | exact Below.trans (by repeat (first | exact Below.refl _ _ | refine Below.alloc ?_ (by simp) _)) (hb1.mono (by simp; omega)) | (repeat (first | exact Below.refl _ _ | refine Below.alloc ?_ (by simp) _))
set_option maxHeartbeats 2000000 in
theorem read_un (ev kv : Value) (l : List Tm) (kinds : List Int) (t : Tm) (A : Ex) (hl : l.length ≤ 1000) (h0 : ar t.1 = 1) (ihA : yix ev kv l kinds A) : yix ev kv l kinds (.un t A) := by
 intro p r bound w hd ht hk
 obtain ⟨a0, cap0, rfl, h1, h2, h3⟩ := ht.open
 simp only [Ex.fl, List.cons_append] at hd
 obtain ⟨hp, hpt, hd1⟩ := yhm hd
 obtain ⟨g, o, rfl, hg, hc⟩ := h3 (by omega)
 obtain ⟨c0, c1⟩ := hc p t hpt
 obtain ⟨h18, h29⟩ := zrg h0
 have HT := Lib.hid ht
 have HK := Lib.hid hk
 have HD1 := Lib.hid hd1
 have HIA := Lib.hid ihA
 have HR : Hid (ty kinds bound (.un t A) = zgk t.1 (ty kinds (bound || yhs t.1) A) 0 0) := by unfold zgk; rw [if_pos h0]; rfl
 have hz : (ar t.1 == 0) = false := by rw [h0]; rfl
 have hlen := Lib.hid (show (Ex.un t A).fl.length = 1 + A.fl.length by simp [Ex.fl]; omega)
 have hpl : p + 1 ≤ 1000 := by omega
 clear hc h3 hpt hd ht hk hd1 ihA
 obtain ⟨op, x⟩ := t
 simp only at *
 rcases Bool.eq_false_or_eq_true (yhs op) with hn | hn <;> cases bound
 all_goals
  simp only [hn, Bool.or_true, Bool.or_false] at HR
  go_enter Tryz.func202, Tryz.ntmps202
  go_wp2_with (first | (go_at_call 237; refine (ygo _ _).mono ?_; rintro e w' ⟨rfl, rfl⟩) | (go_at_call 241; refine (yii _ _).mono ?_; rintro e w' ⟨rfl, rfl⟩))
  refine wp_loop_rounds 2 ?_
  rw [rounds_succ]
  go_wp2_with fail
  rw [show ((p : Int) + 1) = ((p + 1 : Nat) : Int) by omega]
  refine (HIA.out (p + 1) r _ _ HD1.out (by exact yde.below HT.out (by repeat (first | exact Below.refl _ _ | refine Below.alloc ?_ (by first | (simp; done) | (simp; omega)) _))) (by exact yna.below HK.out (by repeat (first | exact Below.refl _ _ | refine Below.alloc ?_ (by first | (simp; done) | (simp; omega)) _)))).mono ?_
  rintro e w1 ⟨rfl, hb1⟩
  obtain ⟨hcl, hfz⟩ := zma hb1
  have hsz := hb1.size
  simp at hsz
  generalize ty kinds _ A = ta at *
  go_wp2_with fail
  rw [rounds_succ]
  go_wp2_with (first | (go_at_call 244; refine (ytm _ _ _ _ _ (by omega) (by omega)).mono ?_; rintro e w2 ⟨rfl, hb2⟩))
  have B1 : Below w.heap.size w w1 := Below.trans (by repeat (first | exact Below.refl _ _ | refine Below.alloc ?_ (by first | (simp; done) | (simp; omega)) _)) (hb1.mono (by simp; omega))
  have B2 := B1.size
  go_ret2
  refine ⟨by rw [HR.out, hlen.out]; simp; omega, Below.trans (B1.setCell ?_ _) (hb2.mono ?_)⟩
  ·simp; omega
  ·simp; omega
set_option maxHeartbeats 4000000 in
theorem read_bi (ev kv : Value) (l : List Tm) (kinds : List Int) (t : Tm) (A B : Ex) (hl : l.length ≤ 1000) (h0 : ar t.1 = 2) (ihA : yix ev kv l kinds A) (ihB : yix ev kv l kinds B) : yix ev kv l kinds (.bi t A B) := by
 intro p r bound w hd ht hk
 obtain ⟨a0, cap0, rfl, h1, h2, h3⟩ := ht.open
 simp only [Ex.fl, List.cons_append, List.append_assoc] at hd
 obtain ⟨hp, hpt, hd1⟩ := yhm hd
 obtain ⟨g, o, rfl, hg, hc⟩ := h3 (by omega)
 obtain ⟨c0, c1⟩ := hc p t hpt
 have h18 : 18 ≤ t.1 ∧ t.1 ≤ 43 := by have := zrh h0; omega
 have h18a := h18.1
 have h18b := h18.2
 have HT := Lib.hid ht
 have HK := Lib.hid hk
 have HDA := Lib.hid hd1
 have hdB : l.drop (p + 1 + A.fl.length) = B.fl ++ r := by rw [← List.drop_drop, hd1, List.drop_append_of_le_length (Nat.le_refl _), List.drop_length, List.nil_append]
 have HDB := Lib.hid hdB
 have HIA := Lib.hid ihA
 have HIB := Lib.hid ihB
 have HR : Hid (ty kinds bound (.bi t A B) = zgk t.1 (ty kinds bound A) (ty kinds bound B) 0) := by unfold zgk; rw [if_neg (by omega), if_pos h0]; rfl
 have hz : (ar t.1 == 0) = false := by rw [h0]; rfl
 have hn : yhs t.1 = false := yml (by omega)
 have hlen := Lib.hid (show (Ex.bi t A B).fl.length = 1 + A.fl.length + B.fl.length by simp [Ex.fl]; omega)
 have hll : Hid (l.length - p = 1 + A.fl.length + B.fl.length + r.length) := by
  have := congrArg List.length hd
  rw [List.length_drop] at this
  simp at this
  unfold Hid; omega
 clear hc h3 hpt hd ht hk hd1 ihA ihB hdB h18
 obtain ⟨op, x⟩ := t
 simp only at *
 cases bound
 all_goals
  go_enter Tryz.func202, Tryz.ntmps202
  go_wp2_with (first | (go_at_call 237; refine (ygo _ _).mono ?_; rintro e w' ⟨rfl, rfl⟩) | (go_at_call 241; refine (yii _ _).mono ?_; rintro e w' ⟨rfl, rfl⟩))
  refine wp_loop_rounds 3 ?_
  rw [rounds_succ]
  go_wp2_with fail
  rw [show ((p : Int) + 1) = ((p + 1 : Nat) : Int) by omega]
  refine (HIA.out (p + 1) _ _ _ HDA.out (by exact yde.below HT.out (by repeat (first | exact Below.refl _ _ | refine Below.alloc ?_ (by first | (simp; done) | (simp; omega)) _))) (by exact yna.below HK.out (by repeat (first | exact Below.refl _ _ | refine Below.alloc ?_ (by first | (simp; done) | (simp; omega)) _)))).mono ?_
  rintro e w1 ⟨rfl, hb1⟩
  obtain ⟨hcl1, hfz1⟩ := zma hb1
  have hsz1 := hb1.size
  simp at hsz1
  have B1 : Below w.heap.size w w1 := Below.trans (by repeat (first | exact Below.refl _ _ | refine Below.alloc ?_ (by first | (simp; done) | (simp; omega)) _)) (hb1.mono (by simp; omega))
  have B1s := B1.size
  have z1a : w.heap.size < w1.heap.size := by omega
  have z1b : w.heap.size + 1 < w1.heap.size := by omega
  have z1c : w.heap.size + 1 + 1 < w1.heap.size := by omega
  generalize ty kinds _ A = ta at *
  generalize hq1 : p + 1 + A.fl.length = q1 at *
  have HQ1 := Lib.hid hq1
  clear hq1
  have hqb2 : q1 ≤ 1000 := by have e1 := HQ1.out; have e2 := hll.out; omega
  go_wp2_with fail
  rw [rounds_succ]
  go_wp2_with fail
  refine (HIB.out q1 _ _ _ HDB.out (by exact yde.below HT.out (B1.setCell (by first | (simp; done) | (simp; omega)) _)) (by exact yna.below HK.out (B1.setCell (by first | (simp; done) | (simp; omega)) _))).mono ?_
  rintro e w2 ⟨rfl, hb2⟩
  obtain ⟨hcl2, hfz2⟩ := zma hb2
  have hsz2 := hb2.size
  simp at hsz2
  have B2 : Below w.heap.size w w2 := Below.trans (B1.setCell (by first | (simp; done) | (simp; omega)) _) (hb2.mono (by simp; omega))
  have B2s := B2.size
  have z2a : w.heap.size < w2.heap.size := by omega
  have z2b : w.heap.size + 1 < w2.heap.size := by omega
  have z2c : w.heap.size + 1 + 1 < w2.heap.size := by omega
  generalize ty kinds _ B = tb at *
  generalize hq2 : q1 + B.fl.length = q2 at *
  have HQ2 := Lib.hid hq2
  clear hq2
  have hqe : q2 ≤ 1000 := by have e1 := HQ1.out; have e2 := hll.out; have e3 := HQ2.out; omega
  go_wp2_with fail
  rw [rounds_succ]
  go_wp2_with (first | (go_at_call 244; refine (ytm _ _ _ _ _ (by omega) (by omega)).mono ?_; rintro e wz ⟨rfl, hbz⟩))
  go_ret2
  refine ⟨?_, Below.trans (B2.setCell ?_ _) (hbz.mono ?_)⟩
  ·rw [HR.out, hlen.out, show p + (1 + A.fl.length + B.fl.length) = q2 by have e1 := HQ1.out; have e3 := HQ2.out; omega]; rfl
  ·first | (simp; done) | (simp; omega)
  ·simp; omega
set_option maxHeartbeats 4000000 in
theorem read_tr (ev kv : Value) (l : List Tm) (kinds : List Int) (t : Tm) (A B C : Ex) (hl : l.length ≤ 1000) (h0 : ar t.1 = 3) (ihA : yix ev kv l kinds A) (ihB : yix ev kv l kinds B) (ihC : yix ev kv l kinds C) : yix ev kv l kinds (.tr t A B C) := by
 intro p r bound w hd ht hk
 obtain ⟨a0, cap0, rfl, h1, h2, h3⟩ := ht.open
 simp only [Ex.fl, List.cons_append, List.append_assoc] at hd
 obtain ⟨hp, hpt, hd1⟩ := yhm hd
 obtain ⟨g, o, rfl, hg, hc⟩ := h3 (by omega)
 obtain ⟨c0, c1⟩ := hc p t hpt
 have h18 : 18 ≤ t.1 ∧ t.1 ≤ 43 := by have := ar_three h0; omega
 have h18a := h18.1
 have h18b := h18.2
 have HT := Lib.hid ht
 have HK := Lib.hid hk
 have HDA := Lib.hid hd1
 have hdB : l.drop (p + 1 + A.fl.length) = B.fl ++ (C.fl ++ r) := by rw [← List.drop_drop, hd1, List.drop_append_of_le_length (Nat.le_refl _), List.drop_length, List.nil_append]
 have HDB := Lib.hid hdB
 have hdC : l.drop (p + 1 + A.fl.length + B.fl.length) = C.fl ++ r := by rw [← List.drop_drop, hdB, List.drop_append_of_le_length (Nat.le_refl _), List.drop_length, List.nil_append]
 have HDC := Lib.hid hdC
 have HIA := Lib.hid ihA
 have HIB := Lib.hid ihB
 have HIC := Lib.hid ihC
 have HR : Hid (ty kinds bound (.tr t A B C) = zgk t.1 (ty kinds bound A) (ty kinds bound B) (ty kinds bound C)) := by unfold zgk; rw [if_neg (by omega), if_neg (by omega)]; rfl
 have hz : (ar t.1 == 0) = false := by rw [h0]; rfl
 have hn : yhs t.1 = false := yml (by omega)
 have hlen := Lib.hid (show (Ex.tr t A B C).fl.length = 1 + A.fl.length + B.fl.length + C.fl.length by simp [Ex.fl]; omega)
 have hll : Hid (l.length - p = 1 + A.fl.length + B.fl.length + C.fl.length + r.length) := by
  have := congrArg List.length hd
  rw [List.length_drop] at this
  simp at this
  unfold Hid; omega
 clear hc h3 hpt hd ht hk hd1 ihA ihB ihC hdB hdC h18
 obtain ⟨op, x⟩ := t
 simp only at *
 cases bound
 all_goals
  go_enter Tryz.func202, Tryz.ntmps202
  go_wp2_with (first | (go_at_call 237; refine (ygo _ _).mono ?_; rintro e w' ⟨rfl, rfl⟩) | (go_at_call 241; refine (yii _ _).mono ?_; rintro e w' ⟨rfl, rfl⟩))
  refine wp_loop_rounds 4 ?_
  rw [rounds_succ]
  go_wp2_with fail
  rw [show ((p : Int) + 1) = ((p + 1 : Nat) : Int) by omega]
  refine (HIA.out (p + 1) _ _ _ HDA.out (by exact yde.below HT.out (by repeat (first | exact Below.refl _ _ | refine Below.alloc ?_ (by first | (simp; done) | (simp; omega)) _))) (by exact yna.below HK.out (by repeat (first | exact Below.refl _ _ | refine Below.alloc ?_ (by first | (simp; done) | (simp; omega)) _)))).mono ?_
  rintro e w1 ⟨rfl, hb1⟩
  obtain ⟨hcl1, hfz1⟩ := zma hb1
  have hsz1 := hb1.size
  simp at hsz1
  have B1 : Below w.heap.size w w1 := Below.trans (by repeat (first | exact Below.refl _ _ | refine Below.alloc ?_ (by first | (simp; done) | (simp; omega)) _)) (hb1.mono (by simp; omega))
  have B1s := B1.size
  have z1a : w.heap.size < w1.heap.size := by omega
  have z1b : w.heap.size + 1 < w1.heap.size := by omega
  have z1c : w.heap.size + 1 + 1 < w1.heap.size := by omega
  generalize ty kinds _ A = ta at *
  generalize hq1 : p + 1 + A.fl.length = q1 at *
  have HQ1 := Lib.hid hq1
  clear hq1
  have hqb2 : q1 ≤ 1000 := by have e1 := HQ1.out; have e2 := hll.out; omega
  go_wp2_with fail
  rw [rounds_succ]
  go_wp2_with fail
  refine (HIB.out q1 _ _ _ HDB.out (by exact yde.below HT.out (B1.setCell (by first | (simp; done) | (simp; omega)) _)) (by exact yna.below HK.out (B1.setCell (by first | (simp; done) | (simp; omega)) _))).mono ?_
  rintro e w2 ⟨rfl, hb2⟩
  obtain ⟨hcl2, hfz2⟩ := zma hb2
  have hsz2 := hb2.size
  simp at hsz2
  have B2 : Below w.heap.size w w2 := Below.trans (B1.setCell (by first | (simp; done) | (simp; omega)) _) (hb2.mono (by simp; omega))
  have B2s := B2.size
  have z2a : w.heap.size < w2.heap.size := by omega
  have z2b : w.heap.size + 1 < w2.heap.size := by omega
  have z2c : w.heap.size + 1 + 1 < w2.heap.size := by omega
  generalize ty kinds _ B = tb at *
  generalize hq2 : q1 + B.fl.length = q2 at *
  have HQ2 := Lib.hid hq2
  clear hq2
  have hqb3 : q2 ≤ 1000 := by have e1 := HQ1.out; have e2 := hll.out; have e3 := HQ2.out; omega
  go_wp2_with fail
  rw [rounds_succ]
  go_wp2_with fail
  refine (HIC.out q2 _ _ _ HDC.out (by exact yde.below HT.out (B2.setCell (by first | (simp; done) | (simp; omega)) _)) (by exact yna.below HK.out (B2.setCell (by first | (simp; done) | (simp; omega)) _))).mono ?_
  rintro e w3 ⟨rfl, hb3⟩
  obtain ⟨hcl3, hfz3⟩ := zma hb3
  have hsz3 := hb3.size
  simp at hsz3
  have B3 : Below w.heap.size w w3 := Below.trans (B2.setCell (by first | (simp; done) | (simp; omega)) _) (hb3.mono (by simp; omega))
  have B3s := B3.size
  have z3a : w.heap.size < w3.heap.size := by omega
  have z3b : w.heap.size + 1 < w3.heap.size := by omega
  have z3c : w.heap.size + 1 + 1 < w3.heap.size := by omega
  generalize ty kinds _ C = tc at *
  generalize hq3 : q2 + C.fl.length = q3 at *
  have HQ3 := Lib.hid hq3
  clear hq3
  have hqe : q3 ≤ 1000 := by have e1 := HQ1.out; have e2 := hll.out; have e3 := HQ2.out; have e4 := HQ3.out; omega
  go_wp2_with fail
  rw [rounds_succ]
  go_wp2_with (first | (go_at_call 244; refine (ytm _ _ _ _ _ (by omega) (by omega)).mono ?_; rintro e wz ⟨rfl, hbz⟩))
  go_ret2
  refine ⟨?_, Below.trans (B3.setCell ?_ _) (hbz.mono ?_)⟩
  ·rw [HR.out, hlen.out, show p + (1 + A.fl.length + B.fl.length + C.fl.length) = q3 by have e1 := HQ1.out; have e3 := HQ2.out; have e4 := HQ3.out; omega]; rfl
  ·first | (simp; done) | (simp; omega)
  ·simp; omega
theorem read_any (ev kv : Value) (l : List Tm) (kinds : List Int) (hl : l.length ≤ 1000) (E : Ex) : E.ok → (∀ t ∈ E.fl, yqc kinds.length t = true) → yix ev kv l kinds E := by
 induction E with
 | lf t => intro h ha; exact read_leaf ev kv l kinds t hl h (ha t (by simp [Ex.fl]))
 | un t a iha => intro h ha; exact read_un ev kv l kinds t a hl h.1 (iha h.2 fun t ht => ha t (by simp [Ex.fl, ht]))
 | bi t a b iha ihb => intro h ha; exact read_bi ev kv l kinds t a b hl h.1 (iha h.2.1 fun t ht => ha t (by simp [Ex.fl, ht])) (ihb h.2.2 fun t ht => ha t (by simp [Ex.fl, ht]))
 | tr t a b c iha ihb ihc => intro h ha; exact read_tr ev kv l kinds t a b c hl h.1 (iha h.2.1 fun t ht => ha t (by simp [Ex.fl, ht])) (ihb h.2.2.1 fun t ht => ha t (by simp [Ex.fl, ht])) (ihc h.2.2.2 fun t ht => ha t (by simp [Ex.fl, ht]))
end
section
open Go.RowKit
theorem zep {l : List Tm} {q : Nat} {X : Ex} {r : List Tm} (h : l.drop q = X.fl ++ r) (ho : X.ok) : ype 1 q l = ((q + X.fl.length : Nat) : Int) := by
 unfold ype
 rw [h, zbz X ho 0 r, ykx]
 simp
theorem ynk {l : List Tm} {q : Nat} {X : Ex} {r : List Tm} (h : l.drop q = X.fl ++ r) : l.drop (q + X.fl.length) = r := by
 rw [← List.drop_drop, h, List.drop_append_of_le_length (Nat.le_refl _), List.drop_length, List.nil_append]
set_option maxHeartbeats 2000000 in
theorem zgn (v : Value) (l : List Tm) (p : Nat) (E A : Ex) (t : Tm) (r r1 : List Tm) (w : World) (hl : l.length ≤ 1000) (hv : Hid (yde w v l)) (hE : Hid (l.drop p = E.fl ++ r)) (ho : Hid E.ok) (hA : Hid (l.drop p = t :: (A.fl ++ r1))) (hoA : Hid A.ok) (har : 2 ≤ ar t.1) :
  Calls Tryz.prog 268 #[v, .int .i64 p, .int .i64 1] w fun e w' => e = .returned (.int .i64 ((p + 1 + A.fl.length : Nat) : Int)) ∧ w = w' := by
 obtain ⟨hp, hpt, hd1⟩ := yhm hA.out
 obtain ⟨a0, cap0, rfl, h1, h2, h3⟩ := hv.out.open
 obtain ⟨g, o, rfl, hg, hc⟩ := h3 (by omega)
 obtain ⟨c0, c1⟩ := hc p t hpt
 have HE1 := Lib.hid (zep hE.out ho.out)
 have HE2 := Lib.hid (zep hd1 hoA.out)
 have hb := zea t.1
 have hb2 := hb.2
 clear hc h3 hpt hd1 hb
 go_enter Tryz.func268, Tryz.ntmps268
 go_wp2_with fail
 refine (ynt _ l p _ hl hv (by omega)).mono ?_
 rintro e w' ⟨rfl, rfl⟩
 rw [HE1.out]
 go_wp2_with (go_at_call 262; refine (yea _ _).mono ?_; rintro e w' ⟨rfl, rfl⟩)
 refine wp_loop_rounds 2 ?_
 rw [rounds_succ]
 go_wp2_with fail
 rw [show ((p : Int) + 1) = ((p + 1 : Nat) : Int) by omega]
 refine (ynt _ l (p + 1) _ hl hv (by omega)).mono ?_
 rintro e w' ⟨rfl, rfl⟩
 rw [HE2.out]
 go_wp2_with fail
 rw [rounds_succ]
 go_wp2_with fail
 go_ret
 exact ⟨rfl, rfl⟩
set_option maxHeartbeats 2000000 in
theorem roperand2 (v : Value) (l : List Tm) (p : Nat) (E A B : Ex) (t : Tm) (r r1 : List Tm) (w : World) (hl : l.length ≤ 1000) (hv : Hid (yde w v l)) (hE : Hid (l.drop p = E.fl ++ r)) (ho : Hid E.ok) (hA : Hid (l.drop p = t :: (A.fl ++ (B.fl ++ r1)))) (hoA : Hid A.ok) (hoB : Hid B.ok) (har : 3 ≤ ar t.1) :
  Calls Tryz.prog 268 #[v, .int .i64 p, .int .i64 2] w fun e w' => e = .returned (.int .i64 ((p + 1 + A.fl.length + B.fl.length : Nat) : Int)) ∧ w = w' := by
 obtain ⟨hp, hpt, hd1⟩ := yhm hA.out
 obtain ⟨a0, cap0, rfl, h1, h2, h3⟩ := hv.out.open
 obtain ⟨g, o, rfl, hg, hc⟩ := h3 (by omega)
 obtain ⟨c0, c1⟩ := hc p t hpt
 have HE1 := Lib.hid (zep hE.out ho.out)
 have HE2 := Lib.hid (zep hd1 hoA.out)
 have hd2 := ynk hd1
 have HE3 := Lib.hid (zep hd2 hoB.out)
 have hq : p + 1 + A.fl.length ≤ l.length := by
  have h5 := congrArg List.length hA.out
  rw [List.length_drop] at h5
  simp at h5
  omega
 have hb := zea t.1
 have hb2 := hb.2
 clear hc h3 hpt hd1 hd2 hb
 go_enter Tryz.func268, Tryz.ntmps268
 go_wp2_with fail
 refine (ynt _ l p _ hl hv (by omega)).mono ?_
 rintro e w' ⟨rfl, rfl⟩
 rw [HE1.out]
 go_wp2_with (go_at_call 262; refine (yea _ _).mono ?_; rintro e w' ⟨rfl, rfl⟩)
 refine wp_loop_rounds 3 ?_
 rw [rounds_succ]
 go_wp2_with fail
 rw [show ((p : Int) + 1) = ((p + 1 : Nat) : Int) by omega]
 refine (ynt _ l (p + 1) _ hl hv (by omega)).mono ?_
 rintro e w' ⟨rfl, rfl⟩
 rw [HE2.out]
 generalize hqe : p + 1 + A.fl.length = q at *
 have HQ := Lib.hid hqe
 clear hqe
 go_wp2_with fail
 rw [rounds_succ]
 go_wp2_with fail
 refine (ynt _ l q _ hl hv (by omega)).mono ?_
 rintro e w' ⟨rfl, rfl⟩
 rw [HE3.out]
 go_wp2_with fail
 rw [rounds_succ]
 go_wp2_with fail
 go_ret
 exact ⟨ybh (by have := HQ.out; simp; omega), rfl⟩
end
section
open Go.RowKit
def KindRet (kinds : List Int) (bound : Bool) (E : Ex) (w : World) (e : Ending) (w' : World) : Prop :=
 e = .returned (.int .i64 (ty kinds bound E)) ∧ Below w.heap.size w w'
def yiw (ev kv : Value) (l : List Tm) (kinds : List Int) (E : Ex) : Prop :=
 ∀ (p : Nat) (r : List Tm) (bound : Bool) (w : World), l.drop p = E.fl ++ r → yde w ev l → yna .i64 w kv kinds →
  Calls Tryz.prog 287 #[ev, .int .i64 p, kv, .bool bound] w (KindRet kinds bound E w)
theorem rleaf_ty (kv : Value) (kinds : List Int) (op x : Int) (bound : Bool) (w : World) (hk : Hid (yna .i64 w kv kinds)) (h1 : 1 ≤ op) (h2 : op ≤ 17) (hx : op = 5 ∨ op = 12 → 0 ≤ x ∧ x < kinds.length) :
  Calls Tryz.prog 311 #[.agg #[.int .i64 op, .int .i64 x], kv, .bool bound] w fun e w' => e = .returned (.int .i64 (ty kinds bound (.lf (op, x)))) ∧ Below w.heap.size w w' :=
 (rleaf_any kv kinds op x bound w hk h1 h2 hx).mono fun e w' ⟨he, hb⟩ => ⟨by rw [he]; rfl, hb⟩
set_option maxHeartbeats 1000000 in
theorem kind_leaf (ev kv : Value) (l : List Tm) (kinds : List Int) (t : Tm) (hl : l.length ≤ 1000) (h0 : ar t.1 = 0) (ha : Hid (yqc kinds.length t = true)) : yiw ev kv l kinds (.lf t) := by
 intro p r bound w hd ht hk
 obtain ⟨a0, cap0, rfl, h1, h2, h3⟩ := ht.open
 obtain ⟨hp, hpt, _⟩ := yhm hd
 obtain ⟨g, o, rfl, hg, hc⟩ := h3 (by omega)
 obtain ⟨c0, c1⟩ := hc p t hpt
 obtain ⟨h11, h17⟩ := znk h0
 have HK := Lib.hid hk
 have hz : (ar t.1 == 0) = true := by rw [h0]; rfl
 clear hc h3 hpt hd ht hk h0
 obtain ⟨op, x⟩ := t
 simp only at *
 go_enter Tryz.func287, Tryz.ntmps287
 go_wp2_with (first | (go_at_call 262; refine (yea _ _).mono ?_; rintro e w' ⟨rfl, rfl⟩) | (go_at_call 311; refine (rleaf_ty _ kinds op x bound _ HK h11 h17 (zjh ha.out)).mono ?_; rintro e w1 ⟨rfl, hb1⟩))
 go_ret
 exact ⟨rfl, hb1⟩
set_option maxHeartbeats 2000000 in
theorem kind_un (ev kv : Value) (l : List Tm) (kinds : List Int) (t : Tm) (A : Ex) (hl : l.length ≤ 1000) (h0 : ar t.1 = 1) (ihA : yiw ev kv l kinds A) : yiw ev kv l kinds (.un t A) := by
 intro p r bound w hd ht hk
 obtain ⟨a0, cap0, rfl, h1, h2, h3⟩ := ht.open
 simp only [Ex.fl, List.cons_append] at hd
 obtain ⟨hp, hpt, hd1⟩ := yhm hd
 obtain ⟨g, o, rfl, hg, hc⟩ := h3 (by omega)
 obtain ⟨c0, c1⟩ := hc p t hpt
 obtain ⟨h18, h29⟩ := zrg h0
 have HT := Lib.hid ht
 have HK := Lib.hid hk
 have HD1 := Lib.hid hd1
 have HIA := Lib.hid ihA
 have HR : Hid (ty kinds bound (.un t A) = ty1 t.1 (ty kinds (bound || yhs t.1) A)) := rfl
 have hz : (ar t.1 == 0) = false := by rw [h0]; rfl
 have hz1 : (ar t.1 == 1) = true := by rw [h0]; rfl
 have hpl : p + 1 ≤ 1000 := by omega
 clear hc h3 hpt hd ht hk hd1 ihA h0
 obtain ⟨op, x⟩ := t
 simp only at *
 rcases Bool.eq_false_or_eq_true (yhs op) with hn | hn <;> cases bound
 all_goals
  simp only [hn, Bool.or_true, Bool.or_false] at HR
  go_enter Tryz.func287, Tryz.ntmps287
  go_wp2_with (first | (go_at_call 262; refine (yea _ _).mono ?_; rintro e w' ⟨rfl, rfl⟩) | (go_at_call 264; refine (ykn _ _).mono ?_; rintro e w' ⟨rfl, rfl⟩))
  rw [show ((p : Int) + 1) = ((p + 1 : Nat) : Int) by omega]
  refine (HIA.out (p + 1) r _ _ HD1.out HT.out HK.out).mono ?_
  rintro e w1 ⟨rfl, hb1⟩
  generalize ty kinds _ A = ta at *
  go_wp2_with (first | (go_at_call 312; refine (rsingle_any _ _ _ (by omega) (by omega)).mono ?_; rintro e w2 ⟨rfl, rfl⟩))
  go_ret
  exact ⟨ybh HR.out.symm, hb1⟩
set_option maxHeartbeats 4000000 in
theorem kind_bi (ev kv : Value) (l : List Tm) (kinds : List Int) (t : Tm) (A B : Ex) (hl : l.length ≤ 1000) (h0 : ar t.1 = 2) (hoA : A.ok) (hoB : B.ok) (ihA : yiw ev kv l kinds A) (ihB : yiw ev kv l kinds B) : yiw ev kv l kinds (.bi t A B) := by
 intro p r bound w hd ht hk
 obtain ⟨a0, cap0, rfl, h1, h2, h3⟩ := ht.open
 have HE := Lib.hid hd
 have HO : Hid (Ex.bi t A B).ok := ⟨h0, hoA, hoB⟩
 have HOA := Lib.hid hoA
 simp only [Ex.fl, List.cons_append, List.append_assoc] at hd
 have HA := Lib.hid hd
 obtain ⟨hp, hpt, hd1⟩ := yhm hd
 obtain ⟨g, o, rfl, hg, hc⟩ := h3 (by omega)
 obtain ⟨c0, c1⟩ := hc p t hpt
 obtain ⟨h30, h42⟩ := zrh h0
 have HT := Lib.hid ht
 have HK := Lib.hid hk
 have HDA := Lib.hid hd1
 have HDB := Lib.hid (ynk hd1)
 have HIA := Lib.hid ihA
 have HIB := Lib.hid ihB
 have HR : Hid (ty kinds bound (.bi t A B) = ty2 t.1 (ty kinds bound A) (ty kinds bound B)) := rfl
 have hz : (ar t.1 == 0) = false := by rw [h0]; rfl
 have hz1 : (ar t.1 == 1) = false := by rw [h0]; rfl
 have hz2 : (ar t.1 == 2) = true := by rw [h0]; rfl
 have hge : 2 ≤ ar t.1 := by omega
 clear hc h3 hpt hd ht hk hd1 ihA ihB h0 hoA hoB
 go_enter Tryz.func287, Tryz.ntmps287
 go_wp2_with (go_at_call 262; refine (yea _ _).mono ?_; rintro e w' ⟨rfl, rfl⟩)
 rw [show ((p : Int) + 1) = ((p + 1 : Nat) : Int) by omega]
 refine (HIA.out (p + 1) _ _ _ HDA.out HT.out HK.out).mono ?_
 rintro e w1 ⟨rfl, hb1⟩
 generalize ty kinds bound A = ta at *
 go_wp2_with fail
 refine (zgn _ l p (.bi t A B) A t r _ _ hl (by exact HT.out.below hb1) HE HO HA HOA hge).mono ?_
 rintro e w2 ⟨rfl, rfl⟩
 generalize p + 1 + A.fl.length = q1 at *
 go_wp2_with fail
 refine (HIB.out q1 _ _ _ HDB.out (HT.out.below hb1) (HK.out.below hb1)).mono ?_
 rintro e w3 ⟨rfl, hb3⟩
 generalize ty kinds bound B = tb at *
 go_wp2_with (first | (go_at_call 313; refine (rdouble_any _ _ _ _ (by omega) (by omega)).mono ?_; rintro e w2 ⟨rfl, rfl⟩))
 go_ret
 exact ⟨ybh HR.out.symm, yeg hb1 hb3⟩
set_option maxHeartbeats 4000000 in
theorem kind_tr (ev kv : Value) (l : List Tm) (kinds : List Int) (t : Tm) (A B C : Ex) (hl : l.length ≤ 1000) (h0 : ar t.1 = 3) (hoA : A.ok) (hoB : B.ok) (hoC : C.ok) (ihA : yiw ev kv l kinds A) (ihB : yiw ev kv l kinds B) (ihC : yiw ev kv l kinds C) : yiw ev kv l kinds (.tr t A B C) := by
 intro p r bound w hd ht hk
 obtain ⟨a0, cap0, rfl, h1, h2, h3⟩ := ht.open
 have HE := Lib.hid hd
 have HO : Hid (Ex.tr t A B C).ok := ⟨h0, hoA, hoB, hoC⟩
 have HOA := Lib.hid hoA
 have HOB := Lib.hid hoB
 simp only [Ex.fl, List.cons_append, List.append_assoc] at hd
 have HA := Lib.hid hd
 obtain ⟨hp, hpt, hd1⟩ := yhm hd
 obtain ⟨g, o, rfl, hg, hc⟩ := h3 (by omega)
 obtain ⟨c0, c1⟩ := hc p t hpt
 have HT := Lib.hid ht
 have HK := Lib.hid hk
 have HDA := Lib.hid hd1
 have HDB := Lib.hid (ynk hd1)
 have HDC := Lib.hid (ynk (ynk hd1))
 have HIA := Lib.hid ihA
 have HIB := Lib.hid ihB
 have HIC := Lib.hid ihC
 have HR : Hid (ty kinds bound (.tr t A B C) = ty3 (ty kinds bound A) (ty kinds bound B) (ty kinds bound C)) := rfl
 have hz : (ar t.1 == 0) = false := by rw [h0]; rfl
 have hz1 : (ar t.1 == 1) = false := by rw [h0]; rfl
 have hz2 : (ar t.1 == 2) = false := by rw [h0]; rfl
 have hge : 2 ≤ ar t.1 := by omega
 have hge3 : 3 ≤ ar t.1 := by omega
 clear hc h3 hpt hd ht hk hd1 ihA ihB h0 hoA hoB hoC ihC
 go_enter Tryz.func287, Tryz.ntmps287
 go_wp2_with (go_at_call 262; refine (yea _ _).mono ?_; rintro e w' ⟨rfl, rfl⟩)
 rw [show ((p : Int) + 1) = ((p + 1 : Nat) : Int) by omega]
 refine (HIA.out (p + 1) _ _ _ HDA.out HT.out HK.out).mono ?_
 rintro e w1 ⟨rfl, hb1⟩
 generalize ty kinds bound A = ta at *
 go_wp2_with fail
 refine (zgn _ l p (.tr t A B C) A t r _ _ hl (by exact HT.out.below hb1) HE HO HA HOA hge).mono ?_
 rintro e w2 ⟨rfl, rfl⟩
 go_wp2_with fail
 refine (HIB.out (p + 1 + A.fl.length) _ _ _ HDB.out (HT.out.below hb1) (HK.out.below hb1)).mono ?_
 rintro e w3 ⟨rfl, hb3⟩
 have hb13 := yeg hb1 hb3
 generalize ty kinds bound B = tb at *
 go_wp2_with fail
 refine (roperand2 _ l p (.tr t A B C) A B t r _ _ hl (by exact HT.out.below hb13) HE HO HA HOA HOB hge3).mono ?_
 rintro e w4 ⟨rfl, rfl⟩
 generalize p + 1 + A.fl.length + B.fl.length = q2 at *
 go_wp2_with fail
 refine (HIC.out q2 _ _ _ HDC.out (HT.out.below hb13) (HK.out.below hb13)).mono ?_
 rintro e w5 ⟨rfl, hb5⟩
 generalize ty kinds bound C = tc at *
 by_cases q : ta = 2
 ·have q' : (ta != 2) = false := by simp [q]
  have Q := Lib.hid q
  clear q
  go_wp2_with fail
  all_goals go_ret
  all_goals refine ⟨ybh ?_, yeg hb13 hb5⟩
  all_goals (rw [HR.out]; simp [ty3, Q.out]; first | done | (simp at *; omega))
 ·have q' : (ta != 2) = true := by simp [q]
  go_wp2_with fail
  go_ret
  refine ⟨ybh ?_, yeg hb13 hb5⟩
  rw [HR.out]; simp [ty3, q]
theorem kind_any (ev kv : Value) (l : List Tm) (kinds : List Int) (hl : l.length ≤ 1000) (E : Ex) : E.ok → (∀ t ∈ E.fl, yqc kinds.length t = true) → yiw ev kv l kinds E := by
 induction E with
 | lf t => intro h ha; exact kind_leaf ev kv l kinds t hl h (ha t (by simp [Ex.fl]))
 | un t a iha => intro h ha; exact kind_un ev kv l kinds t a hl h.1 (iha h.2 fun t ht => ha t (by simp [Ex.fl, ht]))
 | bi t a b iha ihb => intro h ha; exact kind_bi ev kv l kinds t a b hl h.1 h.2.1 h.2.2 (iha h.2.1 fun t ht => ha t (by simp [Ex.fl, ht])) (ihb h.2.2 fun t ht => ha t (by simp [Ex.fl, ht]))
 | tr t a b c iha ihb ihc => intro h ha; exact kind_tr ev kv l kinds t a b c hl h.1 h.2.1 h.2.2.1 h.2.2.2 (iha h.2.1 fun t ht => ha t (by simp [Ex.fl, ht])) (ihb h.2.2.1 fun t ht => ha t (by simp [Ex.fl, ht])) (ihc h.2.2.2 fun t ht => ha t (by simp [Ex.fl, ht]))
end
section
open Go.RowKit
theorem zul (ev kv : Value) (l : List Tm) (kinds : List Int) (bound : Bool) (E : Ex) (w : World) (hl : l.length ≤ 1000) (ho : Hid E.ok) (ha : Hid (∀ t ∈ l, yqc kinds.length t = true)) (hf : Hid (E.fl = l)) (ht : yde w ev l) (hk : yna .i64 w kv kinds) :
  Calls Tryz.prog 202 #[.agg #[ev, kv], .int .i64 0, .bool bound] w fun e w' => e = .returned (.tuple #[.int .i64 (ty kinds bound E), .int .i64 l.length]) ∧ Below w.heap.size w w' :=
 (read_any ev kv l kinds hl E ho.out (by rw [hf.out]; exact ha.out) 0 [] bound w (by simp [hf.out]) ht hk).mono fun e w' ⟨he, hb⟩ => ⟨by rw [he, Nat.zero_add, hf.out], hb⟩
theorem kind0 (ev kv : Value) (l : List Tm) (kinds : List Int) (bound : Bool) (E : Ex) (w : World) (hl : l.length ≤ 1000) (ho : Hid E.ok) (ha : Hid (∀ t ∈ l, yqc kinds.length t = true)) (hf : Hid (E.fl = l)) (ht : yde w ev l) (hk : yna .i64 w kv kinds) :
  Calls Tryz.prog 287 #[ev, .int .i64 0, kv, .bool bound] w fun e w' => e = .returned (.int .i64 (ty kinds bound E)) ∧ Below w.heap.size w w' :=
 (kind_any ev kv l kinds hl E ho.out (by rw [hf.out]; exact ha.out) 0 [] bound w (by simp [hf.out]) ht hk)
theorem kindsB_bad {kinds : List Int} (k : Nat) (hk : k < kinds.length) (h : yql kinds[k] = false) : yfc kinds = false := by
 unfold yfc
 rw [List.all_eq_false]
 exact ⟨kinds[k], List.getElem_mem hk, by unfold yql at h; simp [h]⟩
theorem kindsB_step {kinds : List Int} (k : Nat) (hk : k < kinds.length) (h : yfc (kinds.take k) = true) (hw : yql kinds[k] = true) : yfc (kinds.take (k + 1)) = true := by
 rw [List.take_succ_eq_append_getElem hk]
 unfold yfc at *
 rw [List.all_append, h]
 unfold yql at hw
 simpa using hw
def zsk (l : List Tm) (kinds : List Int) (bound : Bool) (w : World) (e : Ending) (w' : World) : Prop :=
 e = .returned (.tuple #[.int .i64 (ofF l kinds bound).1, .int .i64 (ofF l kinds bound).2]) ∧ Below w.heap.size w w'
theorem zar {l : List Tm} {kinds : List Int} {bound : Bool} {w w' : World} {a b : Int} (h : ofF l kinds bound = (a, b)) (hb : Below w.heap.size w w') : zsk l kinds bound w (.returned (.tuple #[.int .i64 a, .int .i64 b])) w' := by
 unfold zsk; rw [h]; exact ⟨rfl, hb⟩
set_option maxHeartbeats 4000000 in
theorem of_any (ev kv : Value) (l : List Tm) (kinds : List Int) (bound : Bool) (w : World) (hl : l.length ≤ 1000) (hv : Hid (yde w ev l)) (hk : Hid (yna .i64 w kv kinds)) :
  Calls Tryz.prog 144 #[ev, kv, .bool bound] w (zsk l kinds bound w) := by
 obtain ⟨a0, cap0, rfl, i1, i2, i3, i4⟩ := hk.out.open
 have HC := Lib.hid i4
 obtain ⟨a1, cap1, rfl, _, _, j3⟩ := hv.out.open
 clear i3 i4 j3
 by_cases h6 : 6 < kinds.length
 ·have H := Lib.hid (zku l kinds bound h6)
  go_enter Tryz.func144, Tryz.ntmps144
  go_wp2_with fail
  go_ret2
  exact zar H.out (Below.refl _ _)
 have b6 : decide (6 < kinds.length) = false := by simp; omega
 have b6' : decide (6 < (kinds.length : Int)) = false := by simp; omega
 cases hval : ydc l kinds.length with
 | false =>
  have H := Lib.hid (yxr l kinds bound hval)
  go_enter Tryz.func144, Tryz.ntmps144
  go_wp2_with fail
  go_loop [9, 18] (fun _ i => ∃ k : Nat, k ≤ kinds.length ∧ i = .int .i64 k) (fun _ i => kinds.length - (intOf i).toNat)
  case atStart => exact ⟨0, by omega, rfl⟩
  case round =>
   obtain ⟨k, hkl, rfl⟩ := hrel
   by_cases hlt : k < kinds.length
   ·obtain ⟨g, o, rfl, hg, hc⟩ := HC.out (by omega)
    have c0 := hc k _ (List.getElem?_eq_getElem hlt)
    clear hc
    rcases Bool.eq_false_or_eq_true (yql kinds[k]) with hw | hw
    ·go_wp2_with (go_at_call 201; refine (ydb _ _).mono ?_; rintro e w1 ⟨rfl, rfl⟩)
     exact ⟨⟨k + 1, by omega, by go_num⟩, by simp [intOf]; omega⟩
    ·go_wp2_with (go_at_call 201; refine (ydb _ _).mono ?_; rintro e w1 ⟨rfl, rfl⟩)
     go_ret2
     exact zar H.out (Below.refl _ _)
   ·go_wp2_with (go_at_call 143; refine (yjn _ l _ _ hl hv).mono ?_; rintro e w1 ⟨rfl, hb1⟩)
    go_ret2
    exact zar H.out hb1
 | true =>
  obtain ⟨E, hp, ho, hf, hlen, harg, _, _⟩ := ymh hval
  have HO := Lib.hid ho
  have HF := Lib.hid hf
  have HA := Lib.hid (List.all_eq_true.1 harg)
  have HP := Lib.hid hp
  have HV := Lib.hid hval
  clear ho hf harg hp
  go_enter Tryz.func144, Tryz.ntmps144
  go_wp2_with fail
  go_loop [9, 18] (fun _ i => ∃ k : Nat, k ≤ kinds.length ∧ i = .int .i64 k ∧ Hid (yfc (kinds.take k) = true)) (fun _ i => kinds.length - (intOf i).toNat)
  case atStart => exact ⟨0, by omega, rfl, rfl⟩
  case round =>
   obtain ⟨k, hkl, rfl, hall⟩ := hrel
   by_cases hlt : k < kinds.length
   ·obtain ⟨g, o, rfl, hg, hc⟩ := HC.out (by omega)
    have c0 := hc k _ (List.getElem?_eq_getElem hlt)
    clear hc
    rcases Bool.eq_false_or_eq_true (yql kinds[k]) with hw | hw
    ·have HN := Lib.hid (kindsB_step k hlt hall.out hw)
     go_wp2_with (go_at_call 201; refine (ydb _ _).mono ?_; rintro e w1 ⟨rfl, rfl⟩)
     exact ⟨⟨k + 1, by omega, by go_num, HN⟩, by simp [intOf]; omega⟩
    ·have HN := Lib.hid (zgc l kinds bound (kindsB_bad k hlt hw))
     go_wp2_with (go_at_call 201; refine (ydb _ _).mono ?_; rintro e w1 ⟨rfl, rfl⟩)
     go_ret2
     exact zar HN.out (Below.refl _ _)
   ·have hkk := hall.out
    rw [List.take_of_length_le (by omega)] at hkk
    have HN := Lib.hid (zoz l kinds bound E h6 hkk HV.out HP.out)
    clear hkk
    by_cases hz : ty kinds bound E = 0
    ·have hz' : (ty kinds bound E == 0) = true := by simp [hz]
     have HZ := Lib.hid hz
     clear hz
     go_wp2_with (go_at_call 143; refine (yjn _ l _ _ hl hv).mono ?_; rintro e w1 ⟨rfl, hb1⟩)
     refine (zul _ _ l kinds bound E _ hl HO HA HF (by exact hv.out.below (hb1.alloc (by have := hb1.size; omega) _)) (by exact hk.out.below (hb1.alloc (by have := hb1.size; omega) _))).mono ?_
     rintro e w2 ⟨rfl, hb2⟩
     have hs1 := hb1.size
     go_wp2_with fail
     go_ret2
     exact zar (by rw [HN.out, if_pos HZ.out]) ((hb1.alloc hs1 _).trans (hb2.mono (by simp; omega)))
    ·have hz' : (ty kinds bound E == 0) = false := by simp [hz]
     go_wp2_with (go_at_call 143; refine (yjn _ l _ _ hl hv).mono ?_; rintro e w1 ⟨rfl, hb1⟩)
     refine (zul _ _ l kinds bound E _ hl HO HA HF (by exact hv.out.below (hb1.alloc (by have := hb1.size; omega) _)) (by exact hk.out.below (hb1.alloc (by have := hb1.size; omega) _))).mono ?_
     rintro e w2 ⟨rfl, hb2⟩
     have hs1 := hb1.size
     go_wp2_with fail
     go_ret2
     exact zar (by rw [HN.out, if_neg hz]) ((hb1.alloc hs1 _).trans (hb2.mono (by simp; omega)))
end
section
open Go.RowKit
theorem zqw (ev kv : Value) (l : List Tm) (kinds : List Int) (bound : Bool) (a b : Int) (w : World) (hl : l.length ≤ 1000) (hv : yde w ev l) (hk : yna .i64 w kv kinds) (h : ofF l kinds bound = (a, b)) :
  Calls Tryz.prog 144 #[ev, kv, .bool bound] w fun e w' => e = .returned (.tuple #[.int .i64 a, .int .i64 b]) ∧ Below w.heap.size w w' :=
 (of_any ev kv l kinds bound w hl hv hk).mono fun e w' ⟨he, hb⟩ => ⟨by rw [he, h], hb⟩
theorem yrl (v : Value) (l : List Tm) (w : World) (hv : Hid (yde w v l)) : Calls Tryz.prog 167 #[v] w fun e w' => e = .returned (.bool (decide (l.length ≤ 250))) ∧ w = w' := by
 obtain ⟨a0, cap0, rfl, h1, h2, h3⟩ := hv.out.open
 clear h3
 go_enter Tryz.func167, Tryz.ntmps167
 go_wp2
 go_ret
 exact ⟨yab (by simp; omega), rfl⟩
end
set_option linter.unusedVariables false
section
open Go.RowKit
def ycg (n lo hi : Int) : Bool := decide (lo ≤ n) && decide (n ≤ hi)
theorem yet (n lo hi : Int) (w : World) : Calls Tryz.prog 220 #[.int .i64 n, .int .i64 lo, .int .i64 hi] w fun e w' => e = .returned (.bool (ycg n lo hi)) ∧ w = w' := by
 go_enter Tryz.func220, Tryz.ntmps220
 go_wp2
 all_goals go_ret
 all_goals exact ⟨yab (by rw [Bool.eq_iff_iff]; simp [ycg]; try omega), rfl⟩
theorem yfq (n lo hi : Int) (w : World) : Calls Tryz.prog 256 #[.int .i64 n, .int .i64 lo, .int .i64 hi] w fun e w' => e = .returned (.bool (ycg n lo hi)) ∧ w = w' := by
 go_enter Tryz.func256, Tryz.ntmps256
 go_wp2
 all_goals go_ret
 all_goals exact ⟨yab (by rw [Bool.eq_iff_iff]; simp [ycg]; try omega), rfl⟩
def ylq (x : VarD) : Bool :=
 yql x.kind && (if (x.kind != 1) = true then (x.lo == 0) && ((x.hi == 0) && ((x.perNode == 0) && (x.perID == 0))) else
  ycg x.lo 0 4096 && (ycg x.perNode 0 255 && (ycg x.perID 0 255 && (if ((x.perNode == 0) && (x.perID == 0)) = true then ycg x.hi 0 4096 else ((x.perNode == 0) || (x.perID == 0)) && ycg x.hi (-4096) 4096))))
theorem zkh (k : Int) (h : (k != 1) = false) : yql k = true := by
 simp at h; subst h; rfl
set_option maxHeartbeats 4000000 in
theorem yxq (x : VarD) (w : World) : Calls Tryz.prog 160 #[.agg #[.string x.name, .int .i64 x.kind, .int .i64 x.lo, .int .i64 x.hi, .int .i64 x.perNode, .int .i64 x.perID]] w fun e w' => e = .returned (.bool (ylq x)) ∧ Below w.heap.size w w' := by
 obtain ⟨name, kind, lo, hi, pn, pi⟩ := x
 rcases Bool.eq_false_or_eq_true (kind != 1) with q1 | q1
 ·rcases Bool.eq_false_or_eq_true (yql kind) with q0 | q0
  ·rcases Bool.eq_false_or_eq_true (lo == 0) with q2 | q2 <;> rcases Bool.eq_false_or_eq_true (hi == 0) with q3 | q3 <;> rcases Bool.eq_false_or_eq_true (pn == 0) with q4 | q4
   all_goals
    go_enter Tryz.func160, Tryz.ntmps160
    go_wp2_with (first | (go_at_call 201; refine (ydb _ _).mono ?_; rintro e w1 ⟨rfl, rfl⟩) | (go_at_call 220; refine (yet _ _ _ _).mono ?_; rintro e w1 ⟨rfl, rfl⟩))
    go_ret
    exact ⟨yab (by simp [ylq, *]), (Below.refl _ _).alloc (Nat.le_refl _) _⟩
  ·
   go_enter Tryz.func160, Tryz.ntmps160
   go_wp2_with (first | (go_at_call 201; refine (ydb _ _).mono ?_; rintro e w1 ⟨rfl, rfl⟩) | (go_at_call 220; refine (yet _ _ _ _).mono ?_; rintro e w1 ⟨rfl, rfl⟩))
   go_ret
   exact ⟨yab (by simp [ylq, *]), (Below.refl _ _).alloc (Nat.le_refl _) _⟩
 ·have q0 := zkh kind q1
  rcases Bool.eq_false_or_eq_true (ycg lo 0 4096) with q2 | q2
  ·rcases Bool.eq_false_or_eq_true (ycg pn 0 255) with q3 | q3
   ·rcases Bool.eq_false_or_eq_true (ycg pi 0 255) with q4 | q4
    ·rcases Bool.eq_false_or_eq_true (pn == 0) with q5 | q5 <;> rcases Bool.eq_false_or_eq_true (pi == 0) with q6 | q6
     all_goals have q7 : (pn != 0) = !(pn == 0) := rfl
     all_goals have q8 : (pi != 0) = !(pi == 0) := rfl
     all_goals simp only [q5, q6, Bool.not_true, Bool.not_false] at q7 q8
     all_goals
      go_enter Tryz.func160, Tryz.ntmps160
      go_wp2_with (first | (go_at_call 201; refine (ydb _ _).mono ?_; rintro e w1 ⟨rfl, rfl⟩) | (go_at_call 220; refine (yet _ _ _ _).mono ?_; rintro e w1 ⟨rfl, rfl⟩))
      go_ret
      exact ⟨yab (by simp [ylq, *]), (Below.refl _ _).alloc (Nat.le_refl _) _⟩
    ·
     go_enter Tryz.func160, Tryz.ntmps160
     go_wp2_with (first | (go_at_call 201; refine (ydb _ _).mono ?_; rintro e w1 ⟨rfl, rfl⟩) | (go_at_call 220; refine (yet _ _ _ _).mono ?_; rintro e w1 ⟨rfl, rfl⟩))
     go_ret
     exact ⟨yab (by simp [ylq, *]), (Below.refl _ _).alloc (Nat.le_refl _) _⟩
   ·
    go_enter Tryz.func160, Tryz.ntmps160
    go_wp2_with (first | (go_at_call 201; refine (ydb _ _).mono ?_; rintro e w1 ⟨rfl, rfl⟩) | (go_at_call 220; refine (yet _ _ _ _).mono ?_; rintro e w1 ⟨rfl, rfl⟩))
    go_ret
    exact ⟨yab (by simp [ylq, *]), (Below.refl _ _).alloc (Nat.le_refl _) _⟩
  ·
   go_enter Tryz.func160, Tryz.ntmps160
   go_wp2_with (first | (go_at_call 201; refine (ydb _ _).mono ?_; rintro e w1 ⟨rfl, rfl⟩) | (go_at_call 220; refine (yet _ _ _ _).mono ?_; rintro e w1 ⟨rfl, rfl⟩))
   go_ret
   exact ⟨yab (by simp [ylq, *]), (Below.refl _ _).alloc (Nat.le_refl _) _⟩
set_option maxHeartbeats 4000000 in
theorem yur (x : VarD) (w : World) : Calls Tryz.prog 258 #[.agg #[.string x.name, .int .i64 x.kind, .int .i64 x.lo, .int .i64 x.hi, .int .i64 x.perNode, .int .i64 x.perID]] w fun e w' => e = .returned (.bool (ylq x)) ∧ Below w.heap.size w w' := by
 obtain ⟨name, kind, lo, hi, pn, pi⟩ := x
 rcases Bool.eq_false_or_eq_true (kind != 1) with q1 | q1
 ·rcases Bool.eq_false_or_eq_true (yql kind) with q0 | q0
  ·rcases Bool.eq_false_or_eq_true (lo == 0) with q2 | q2 <;> rcases Bool.eq_false_or_eq_true (hi == 0) with q3 | q3 <;> rcases Bool.eq_false_or_eq_true (pn == 0) with q4 | q4
   all_goals
    go_enter Tryz.func258, Tryz.ntmps258
    go_wp2_with (first | (go_at_call 285; refine (yld _ _).mono ?_; rintro e w1 ⟨rfl, rfl⟩) | (go_at_call 256; refine (yfq _ _ _ _).mono ?_; rintro e w1 ⟨rfl, rfl⟩))
    go_ret
    exact ⟨yab (by simp [ylq, *]), (Below.refl _ _).alloc (Nat.le_refl _) _⟩
  ·
   go_enter Tryz.func258, Tryz.ntmps258
   go_wp2_with (first | (go_at_call 285; refine (yld _ _).mono ?_; rintro e w1 ⟨rfl, rfl⟩) | (go_at_call 256; refine (yfq _ _ _ _).mono ?_; rintro e w1 ⟨rfl, rfl⟩))
   go_ret
   exact ⟨yab (by simp [ylq, *]), (Below.refl _ _).alloc (Nat.le_refl _) _⟩
 ·have q0 := zkh kind q1
  rcases Bool.eq_false_or_eq_true (ycg lo 0 4096) with q2 | q2
  ·rcases Bool.eq_false_or_eq_true (ycg pn 0 255) with q3 | q3
   ·rcases Bool.eq_false_or_eq_true (ycg pi 0 255) with q4 | q4
    ·rcases Bool.eq_false_or_eq_true (pn == 0) with q5 | q5 <;> rcases Bool.eq_false_or_eq_true (pi == 0) with q6 | q6
     all_goals have q7 : (pn != 0) = !(pn == 0) := rfl
     all_goals have q8 : (pi != 0) = !(pi == 0) := rfl
     all_goals simp only [q5, q6, Bool.not_true, Bool.not_false] at q7 q8
     all_goals
      go_enter Tryz.func258, Tryz.ntmps258
      go_wp2_with (first | (go_at_call 285; refine (yld _ _).mono ?_; rintro e w1 ⟨rfl, rfl⟩) | (go_at_call 256; refine (yfq _ _ _ _).mono ?_; rintro e w1 ⟨rfl, rfl⟩))
      go_ret
      exact ⟨yab (by simp [ylq, *]), (Below.refl _ _).alloc (Nat.le_refl _) _⟩
    ·
     go_enter Tryz.func258, Tryz.ntmps258
     go_wp2_with (first | (go_at_call 285; refine (yld _ _).mono ?_; rintro e w1 ⟨rfl, rfl⟩) | (go_at_call 256; refine (yfq _ _ _ _).mono ?_; rintro e w1 ⟨rfl, rfl⟩))
     go_ret
     exact ⟨yab (by simp [ylq, *]), (Below.refl _ _).alloc (Nat.le_refl _) _⟩
   ·
    go_enter Tryz.func258, Tryz.ntmps258
    go_wp2_with (first | (go_at_call 285; refine (yld _ _).mono ?_; rintro e w1 ⟨rfl, rfl⟩) | (go_at_call 256; refine (yfq _ _ _ _).mono ?_; rintro e w1 ⟨rfl, rfl⟩))
    go_ret
    exact ⟨yab (by simp [ylq, *]), (Below.refl _ _).alloc (Nat.le_refl _) _⟩
  ·
   go_enter Tryz.func258, Tryz.ntmps258
   go_wp2_with (first | (go_at_call 285; refine (yld _ _).mono ?_; rintro e w1 ⟨rfl, rfl⟩) | (go_at_call 256; refine (yfq _ _ _ _).mono ?_; rintro e w1 ⟨rfl, rfl⟩))
   go_ret
   exact ⟨yab (by simp [ylq, *]), (Below.refl _ _).alloc (Nat.le_refl _) _⟩
end
section
open Go.RowKit
def ymz : Bool → List UInt8 → Nat
 | _, [] => 0
 | true, c :: r => if c = 10 then 1 + ymz false r else 1 + ymz true r
 | false, c :: r => if c = 32 ∨ c = 9 ∨ c = 10 ∨ c = 13 then 1 + ymz false r else if c = 35 then 1 + ymz true r else 0
def ybb (s : ByteArray) (k : Nat) : List UInt8 := s.data.toList.drop k
def zbf (s : ByteArray) (b : Bool) (a : Nat) : Nat := a + ymz b (ybb s a)
theorem yjs (s : ByteArray) (k : Nat) (h : k < s.size) : ybb s k = s[k] :: ybb s (k + 1) := by
 unfold ybb
 rw [List.drop_eq_getElem_cons (by simpa using h)]; rfl
theorem bytesFrom_ge (s : ByteArray) (k : Nat) (h : s.size ≤ k) : ybb s k = [] := by
 unfold ybb
 exact List.drop_eq_nil_of_le (by simpa using h)
theorem bytesFrom_drop (s : ByteArray) (k n : Nat) : (ybb s k).drop n = ybb s (k + n) := by
 unfold ybb; rw [List.drop_drop]
theorem yie (s : ByteArray) (k : Nat) : (ybb s k).length = s.size - k := by
 unfold ybb; simp
theorem skipL_le (b : Bool) (r : List UInt8) : ymz b r ≤ r.length := by
 induction r generalizing b with
 | nil => cases b <;> simp [ymz]
 | cons c r ih =>
  have h1 := ih true
  have h2 := ih false
  cases b <;> simp only [ymz, List.length_cons] <;> repeat' split
  all_goals omega
theorem skipTo_bd (s : ByteArray) (b : Bool) (k : Nat) (h : k ≤ s.size) : k ≤ zbf s b k ∧ zbf s b k ≤ s.size := by
 have := skipL_le b (ybb s k)
 rw [yie] at this
 unfold zbf; omega
def ygp (c : UInt8) : Bool := (97 ≤ c && c ≤ 122) || (65 ≤ c && c ≤ 90)
def ypo (c : UInt8) : Bool := 48 ≤ c && c ≤ 57
def ylo (c : UInt8) : Bool := ygp c || ypo c || c == 95
def zun (p : UInt8 → Bool) : List UInt8 → Nat
 | [] => 0
 | c :: r => if p c then 1 + zun p r else 0
def dig (v : Nat) (c : UInt8) : Nat := 10 * v + (c.toNat - 48)
def zwh (v : Nat) (ds : List UInt8) : Nat := ds.foldl dig v
def numRes (ds : List UInt8) : Option Nat := if (1 < ds.length ∧ ds.head? = some 48) ∨ 1073741824 < zwh 0 ds then none else some (zwh 0 ds)
theorem take_snoc (s : ByteArray) (k : Nat) (h : k < s.size) : (ybb s 0).take (k + 1) = (ybb s 0).take k ++ [s[k]] := by
 unfold ybb
 rw [List.drop_zero, List.take_succ_eq_append_getElem (by simpa using h)]; rfl
theorem take_all (s : ByteArray) (k : Nat) (h : s.size ≤ k) : (ybb s 0).take k = ybb s 0 := by
 rw [List.take_of_length_le]; rw [yie]; omega
theorem mem_bytes (s : ByteArray) (k : Nat) (h : k < s.size) : s[k] ∈ ybb s 0 := by
 unfold ybb
 rw [List.drop_zero, Array.mem_toList_iff]
 exact Array.getElem_mem (xs := s.data) h
def sign2B (a b : UInt8) : Bool :=
 (a == 46 && b == 46) || (a == 45 && b == 62) || (a == 58 && b == 61) || (a == 38 && b == 38) || (a == 124 && b == 124) || (a == 61 && b == 61) || (a == 33 && b == 61) || (a == 60 && b == 61) || (a == 62 && b == 61)
def zry (a : UInt8) : Bool := [59, 58, 44, 40, 41, 46, 63, 60, 62, 43, 45, 42, 47, 37, 33].contains a
def zup : List UInt8 → Nat
 | a :: b :: _ => if sign2B a b then 2 else if zry a then 1 else 0
 | [a] => if zry a then 1 else 0
 | [] => 0
structure Tok where
 kind : Nat
 from_ : Nat
 to : Nat
 num : Nat
def zvx (r : List UInt8) : Except Nat (Nat × Nat × Nat) :=
 match r with
 | [] => .error 4
 | c :: _ =>
  if ygp c then (if 24 < zun ylo r then .error 5 else .ok (1, zun ylo r, 0))
  else if ypo c then (match numRes (r.take (zun ypo r)) with | none => .error 2 | some v => .ok (2, zun ypo r, v))
  else if zup r = 0 then .error 4 else .ok (3, zup r, 0)
theorem zem (s : ByteArray) (p : Nat) : (ybb s p).drop (ymz false (ybb s p)) = ybb s (zbf s false p) := by
 rw [bytesFrom_drop]; rfl
theorem bytesFrom_nil_iff (s : ByteArray) (k : Nat) : ybb s k = [] ↔ s.size ≤ k := by
 rw [← List.length_eq_zero_iff, yie]; omega
end
section
open Go.RowKit
set_option maxHeartbeats 400000 in
theorem yta (c : UInt8) (w : World) :
  Calls Tryz.prog 206 #[.int .u8 (c.toNat : Int)] w fun e w' => e = .returned (.bool (ygp c)) ∧ w = w' := by
 go_enter Tryz.func206, Tryz.ntmps206
 go_wp2
 all_goals go_ret
 all_goals exact ⟨yab (by rw [Bool.eq_iff_iff]; simp [ygp, UInt8.le_iff_toNat_le]; omega), rfl⟩
set_option maxHeartbeats 400000 in
theorem digit_any (c : UInt8) (w : World) :
  Calls Tryz.prog 208 #[.int .u8 (c.toNat : Int)] w fun e w' => e = .returned (.bool (ypo c)) ∧ w = w' := by
 go_enter Tryz.func208, Tryz.ntmps208
 go_wp2
 all_goals go_ret
 all_goals exact ⟨yab (by rw [Bool.eq_iff_iff]; simp [ypo, UInt8.le_iff_toNat_le]; omega), rfl⟩
set_option maxHeartbeats 400000 in
theorem zaf (c : UInt8) (w : World) :
  Calls Tryz.prog 207 #[.int .u8 (c.toNat : Int)] w fun e w' => e = .returned (.bool (ylo c)) ∧ w = w' := by
 go_enter Tryz.func207, Tryz.ntmps207
 cases h1 : ygp c <;> cases h2 : ypo c
 all_goals
  go_wp2_with (first | (go_at_call 206; refine (yta _ _).mono ?_; rintro e w' ⟨rfl, rfl⟩) | (go_at_call 208; refine (digit_any _ _).mono ?_; rintro e w' ⟨rfl, rfl⟩))
  go_ret
  exact ⟨yab (by rw [Bool.eq_iff_iff]; simp [ylo, h1, h2, ← UInt8.toNat_inj]; try omega), rfl⟩
set_option maxHeartbeats 400000 in
theorem yqr (c : UInt8) (w : World) :
  Calls Tryz.prog 304 #[.int .u8 (c.toNat : Int)] w fun e w' => e = .returned (.bool (ygp c)) ∧ w = w' := by
 go_enter Tryz.func304, Tryz.ntmps304
 go_wp2
 all_goals go_ret
 all_goals exact ⟨yab (by rw [Bool.eq_iff_iff]; simp [ygp, UInt8.le_iff_toNat_le]; omega), rfl⟩
set_option maxHeartbeats 400000 in
theorem rdigit_any (c : UInt8) (w : World) :
  Calls Tryz.prog 319 #[.int .u8 (c.toNat : Int)] w fun e w' => e = .returned (.bool (ypo c)) ∧ w = w' := by
 go_enter Tryz.func319, Tryz.ntmps319
 go_wp2
 all_goals go_ret
 all_goals exact ⟨yab (by rw [Bool.eq_iff_iff]; simp [ypo, UInt8.le_iff_toNat_le]; omega), rfl⟩
set_option maxHeartbeats 400000 in
theorem zax (c : UInt8) (w : World) :
  Calls Tryz.prog 305 #[.int .u8 (c.toNat : Int)] w fun e w' => e = .returned (.bool (ylo c)) ∧ w = w' := by
 go_enter Tryz.func305, Tryz.ntmps305
 cases h1 : ygp c <;> cases h2 : ypo c
 all_goals
  go_wp2_with (first | (go_at_call 304; refine (yqr _ _).mono ?_; rintro e w' ⟨rfl, rfl⟩) | (go_at_call 319; refine (rdigit_any _ _).mono ?_; rintro e w' ⟨rfl, rfl⟩))
  go_ret
  exact ⟨yab (by rw [Bool.eq_iff_iff]; simp [ylo, h1, h2, ← UInt8.toNat_inj]; try omega), rfl⟩
end
set_option maxHeartbeats 8000000
section
open Go.RowKit
def zvv : List (List UInt8) := [[112, 114, 111, 103, 114, 97, 109], [118, 97, 114], [114, 117, 108, 101], [98, 111, 111, 108], [112, 111, 114, 116], [116, 114, 117, 101], [102, 97, 108, 115, 101], [110, 111, 110, 101], [110], [105, 100, 115], [105, 100], [100, 101, 103], [114, 111, 111, 116], [113], [119, 101, 105, 103, 104, 116], [98, 97, 99, 107], [97, 108, 108], [115, 111, 109, 101], [99, 111, 117, 110, 116], [102, 105, 114, 115, 116], [109, 105, 110], [109, 97, 120], [115, 117, 109], [109, 101, 120], [115, 101, 99, 111, 110, 100], [104, 101, 97, 100]]
def zru (s : ByteArray) : Bool := zvv.any (fun x => s.toList == x)
theorem zpm (s : ByteArray) (q0 : (s.toList == [112, 114, 111, 103, 114, 97, 109]) = false) (q1 : (s.toList == [118, 97, 114]) = false) (q2 : (s.toList == [114, 117, 108, 101]) = false) (q3 : (s.toList == [98, 111, 111, 108]) = false) (q4 : (s.toList == [112, 111, 114, 116]) = false) (q5 : (s.toList == [116, 114, 117, 101]) = false) (q6 : (s.toList == [102, 97, 108, 115, 101]) = false) (q7 : (s.toList == [110, 111, 110, 101]) = false) (q8 : (s.toList == [110]) = false) (q9 : (s.toList == [105, 100, 115]) = false) (q10 : (s.toList == [105, 100]) = false) (q11 : (s.toList == [100, 101, 103]) = false) (q12 : (s.toList == [114, 111, 111, 116]) = false) (q13 : (s.toList == [113]) = false) (q14 : (s.toList == [119, 101, 105, 103, 104, 116]) = false) (q15 : (s.toList == [98, 97, 99, 107]) = false) (q16 : (s.toList == [97, 108, 108]) = false) (q17 : (s.toList == [115, 111, 109, 101]) = false) (q18 : (s.toList == [99, 111, 117, 110, 116]) = false) (q19 : (s.toList == [102, 105, 114, 115, 116]) = false) (q20 : (s.toList == [109, 105, 110]) = false) (q21 : (s.toList == [109, 97, 120]) = false) (q22 : (s.toList == [115, 117, 109]) = false) (q23 : (s.toList == [109, 101, 120]) = false) (q24 : (s.toList == [115, 101, 99, 111, 110, 100]) = false) (q25 : (s.toList == [104, 101, 97, 100]) = false) : zru s = false := by
 simp only [zru, zvv, List.any_cons, List.any_nil, q0, q1, q2, q3, q4, q5, q6, q7, q8, q9, q10, q11, q12, q13, q14, q15, q16, q17, q18, q19, q20, q21, q22, q23, q24, q25, Bool.or_false]
theorem yat (s : ByteArray) (x : List UInt8) (hx : zvv.contains x = true) (h : (s.toList == x) = true) : zru s = true := by
 unfold zru
 rw [List.any_eq_true]
 exact ⟨x, List.contains_iff_mem.1 hx, h⟩
set_option maxHeartbeats 4000000 in
def yij (s : ByteArray) : Bool :=
 match ybb s 0 with
 | [] => false
 | c :: r => decide (s.size ≤ 24) && (ygp c && ((c :: r).all ylo && !zru s))
theorem yxo (s : ByteArray) (h : s.size = 0) : yij s = false := by
 unfold yij; rw [bytesFrom_ge s 0 (by omega)]
theorem zan (s : ByteArray) (h : 24 < s.size) : yij s = false := by
 unfold yij; rw [yjs s 0 (by omega)]; simp; omega
theorem yuo (s : ByteArray) (h : 0 < s.size) (hl : ygp s[0] = false) : yij s = false := by
 unfold yij; rw [yjs s 0 h]; simp [hl]
theorem zap (s : ByteArray) (k : Nat) (h : k < s.size) (hw : ylo s[k] = false) : yij s = false := by
 have hm := mem_bytes s k h
 unfold yij
 cases hb : ybb s 0 with
 | nil => rfl
 | cons c r =>
  rw [hb] at hm
  have : (c :: r).all ylo = false := by
   rw [List.all_eq_false]; exact ⟨s[k], hm, by simp [hw]⟩
  simp only [this, Bool.false_and, Bool.and_false]
theorem zao (s : ByteArray) (h : 0 < s.size) (h24 : s.size ≤ 24) (hl : ygp s[0] = true) (ha : ((ybb s 0).take s.size).all ylo = true) : yij s = !zru s := by
 rw [take_all s _ (Nat.le_refl _)] at ha
 unfold yij
 rw [yjs s 0 h] at *
 simp only [ha, hl, h24, decide_true, Bool.true_and]
theorem zjd (s : ByteArray) (k : Nat) (h : k < s.size) (ha : ((ybb s 0).take k).all ylo = true) (hw : ylo s[k] = true) : ((ybb s 0).take (k + 1)).all ylo = true := by
 rw [take_snoc s k h, List.all_append, ha]; simp [hw]
end
section
open Go.RowKit
theorem reserved_any (s : ByteArray) (w : World) :
  Calls Tryz.prog 251 #[.string s] w fun e w' => e = .returned (.bool (zru s)) ∧ w = w' := by
 rcases Bool.eq_false_or_eq_true (s.toList == [112, 114, 111, 103, 114, 97, 109]) with q0 | q0
 ·have H := Lib.hid (yat s _ (by decide) q0)
  go_enter Tryz.func251, Tryz.ntmps251
  go_wp2
  go_ret
  exact ⟨yab H.out.symm, rfl⟩
 rcases Bool.eq_false_or_eq_true (s.toList == [118, 97, 114]) with q1 | q1
 ·have H := Lib.hid (yat s _ (by decide) q1)
  go_enter Tryz.func251, Tryz.ntmps251
  go_wp2
  go_ret
  exact ⟨yab H.out.symm, rfl⟩
 rcases Bool.eq_false_or_eq_true (s.toList == [114, 117, 108, 101]) with q2 | q2
 ·have H := Lib.hid (yat s _ (by decide) q2)
  go_enter Tryz.func251, Tryz.ntmps251
  go_wp2
  go_ret
  exact ⟨yab H.out.symm, rfl⟩
 rcases Bool.eq_false_or_eq_true (s.toList == [98, 111, 111, 108]) with q3 | q3
 ·have H := Lib.hid (yat s _ (by decide) q3)
  go_enter Tryz.func251, Tryz.ntmps251
  go_wp2
  go_ret
  exact ⟨yab H.out.symm, rfl⟩
 rcases Bool.eq_false_or_eq_true (s.toList == [112, 111, 114, 116]) with q4 | q4
 ·have H := Lib.hid (yat s _ (by decide) q4)
  go_enter Tryz.func251, Tryz.ntmps251
  go_wp2
  go_ret
  exact ⟨yab H.out.symm, rfl⟩
 rcases Bool.eq_false_or_eq_true (s.toList == [116, 114, 117, 101]) with q5 | q5
 ·have H := Lib.hid (yat s _ (by decide) q5)
  go_enter Tryz.func251, Tryz.ntmps251
  go_wp2
  go_ret
  exact ⟨yab H.out.symm, rfl⟩
 rcases Bool.eq_false_or_eq_true (s.toList == [102, 97, 108, 115, 101]) with q6 | q6
 ·have H := Lib.hid (yat s _ (by decide) q6)
  go_enter Tryz.func251, Tryz.ntmps251
  go_wp2
  go_ret
  exact ⟨yab H.out.symm, rfl⟩
 rcases Bool.eq_false_or_eq_true (s.toList == [110, 111, 110, 101]) with q7 | q7
 ·have H := Lib.hid (yat s _ (by decide) q7)
  go_enter Tryz.func251, Tryz.ntmps251
  go_wp2
  go_ret
  exact ⟨yab H.out.symm, rfl⟩
 rcases Bool.eq_false_or_eq_true (s.toList == [110]) with q8 | q8
 ·have H := Lib.hid (yat s _ (by decide) q8)
  go_enter Tryz.func251, Tryz.ntmps251
  go_wp2
  go_ret
  exact ⟨yab H.out.symm, rfl⟩
 rcases Bool.eq_false_or_eq_true (s.toList == [105, 100, 115]) with q9 | q9
 ·have H := Lib.hid (yat s _ (by decide) q9)
  go_enter Tryz.func251, Tryz.ntmps251
  go_wp2
  go_ret
  exact ⟨yab H.out.symm, rfl⟩
 rcases Bool.eq_false_or_eq_true (s.toList == [105, 100]) with q10 | q10
 ·have H := Lib.hid (yat s _ (by decide) q10)
  go_enter Tryz.func251, Tryz.ntmps251
  go_wp2
  go_ret
  exact ⟨yab H.out.symm, rfl⟩
 rcases Bool.eq_false_or_eq_true (s.toList == [100, 101, 103]) with q11 | q11
 ·have H := Lib.hid (yat s _ (by decide) q11)
  go_enter Tryz.func251, Tryz.ntmps251
  go_wp2
  go_ret
  exact ⟨yab H.out.symm, rfl⟩
 rcases Bool.eq_false_or_eq_true (s.toList == [114, 111, 111, 116]) with q12 | q12
 ·have H := Lib.hid (yat s _ (by decide) q12)
  go_enter Tryz.func251, Tryz.ntmps251
  go_wp2
  go_ret
  exact ⟨yab H.out.symm, rfl⟩
 rcases Bool.eq_false_or_eq_true (s.toList == [113]) with q13 | q13
 ·have H := Lib.hid (yat s _ (by decide) q13)
  go_enter Tryz.func251, Tryz.ntmps251
  go_wp2
  go_ret
  exact ⟨yab H.out.symm, rfl⟩
 rcases Bool.eq_false_or_eq_true (s.toList == [119, 101, 105, 103, 104, 116]) with q14 | q14
 ·have H := Lib.hid (yat s _ (by decide) q14)
  go_enter Tryz.func251, Tryz.ntmps251
  go_wp2
  go_ret
  exact ⟨yab H.out.symm, rfl⟩
 rcases Bool.eq_false_or_eq_true (s.toList == [98, 97, 99, 107]) with q15 | q15
 ·have H := Lib.hid (yat s _ (by decide) q15)
  go_enter Tryz.func251, Tryz.ntmps251
  go_wp2
  go_ret
  exact ⟨yab H.out.symm, rfl⟩
 rcases Bool.eq_false_or_eq_true (s.toList == [97, 108, 108]) with q16 | q16
 ·have H := Lib.hid (yat s _ (by decide) q16)
  go_enter Tryz.func251, Tryz.ntmps251
  go_wp2
  go_ret
  exact ⟨yab H.out.symm, rfl⟩
 rcases Bool.eq_false_or_eq_true (s.toList == [115, 111, 109, 101]) with q17 | q17
 ·have H := Lib.hid (yat s _ (by decide) q17)
  go_enter Tryz.func251, Tryz.ntmps251
  go_wp2
  go_ret
  exact ⟨yab H.out.symm, rfl⟩
 rcases Bool.eq_false_or_eq_true (s.toList == [99, 111, 117, 110, 116]) with q18 | q18
 ·have H := Lib.hid (yat s _ (by decide) q18)
  go_enter Tryz.func251, Tryz.ntmps251
  go_wp2
  go_ret
  exact ⟨yab H.out.symm, rfl⟩
 rcases Bool.eq_false_or_eq_true (s.toList == [102, 105, 114, 115, 116]) with q19 | q19
 ·have H := Lib.hid (yat s _ (by decide) q19)
  go_enter Tryz.func251, Tryz.ntmps251
  go_wp2
  go_ret
  exact ⟨yab H.out.symm, rfl⟩
 rcases Bool.eq_false_or_eq_true (s.toList == [109, 105, 110]) with q20 | q20
 ·have H := Lib.hid (yat s _ (by decide) q20)
  go_enter Tryz.func251, Tryz.ntmps251
  go_wp2
  go_ret
  exact ⟨yab H.out.symm, rfl⟩
 rcases Bool.eq_false_or_eq_true (s.toList == [109, 97, 120]) with q21 | q21
 ·have H := Lib.hid (yat s _ (by decide) q21)
  go_enter Tryz.func251, Tryz.ntmps251
  go_wp2
  go_ret
  exact ⟨yab H.out.symm, rfl⟩
 rcases Bool.eq_false_or_eq_true (s.toList == [115, 117, 109]) with q22 | q22
 ·have H := Lib.hid (yat s _ (by decide) q22)
  go_enter Tryz.func251, Tryz.ntmps251
  go_wp2
  go_ret
  exact ⟨yab H.out.symm, rfl⟩
 rcases Bool.eq_false_or_eq_true (s.toList == [109, 101, 120]) with q23 | q23
 ·have H := Lib.hid (yat s _ (by decide) q23)
  go_enter Tryz.func251, Tryz.ntmps251
  go_wp2
  go_ret
  exact ⟨yab H.out.symm, rfl⟩
 rcases Bool.eq_false_or_eq_true (s.toList == [115, 101, 99, 111, 110, 100]) with q24 | q24
 ·have H := Lib.hid (yat s _ (by decide) q24)
  go_enter Tryz.func251, Tryz.ntmps251
  go_wp2
  go_ret
  exact ⟨yab H.out.symm, rfl⟩
 rcases Bool.eq_false_or_eq_true (s.toList == [104, 101, 97, 100]) with q25 | q25
 ·have H := Lib.hid (yat s _ (by decide) q25)
  go_enter Tryz.func251, Tryz.ntmps251
  go_wp2
  go_ret
  exact ⟨yab H.out.symm, rfl⟩
 have H := Lib.hid (zpm s q0 q1 q2 q3 q4 q5 q6 q7 q8 q9 q10 q11 q12 q13 q14 q15 q16 q17 q18 q19 q20 q21 q22 q23 q24 q25)
 go_enter Tryz.func251, Tryz.ntmps251
 go_wp2
 go_ret
 exact ⟨yab H.out.symm, rfl⟩
set_option maxHeartbeats 4000000 in
theorem rreserved_any (s : ByteArray) (w : World) :
  Calls Tryz.prog 306 #[.string s] w fun e w' => e = .returned (.bool (zru s)) ∧ w = w' := by
 rcases Bool.eq_false_or_eq_true (s.toList == [112, 114, 111, 103, 114, 97, 109]) with q0 | q0
 ·have H := Lib.hid (yat s _ (by decide) q0)
  go_enter Tryz.func306, Tryz.ntmps306
  go_wp2
  go_ret
  exact ⟨yab H.out.symm, rfl⟩
 rcases Bool.eq_false_or_eq_true (s.toList == [118, 97, 114]) with q1 | q1
 ·have H := Lib.hid (yat s _ (by decide) q1)
  go_enter Tryz.func306, Tryz.ntmps306
  go_wp2
  go_ret
  exact ⟨yab H.out.symm, rfl⟩
 rcases Bool.eq_false_or_eq_true (s.toList == [114, 117, 108, 101]) with q2 | q2
 ·have H := Lib.hid (yat s _ (by decide) q2)
  go_enter Tryz.func306, Tryz.ntmps306
  go_wp2
  go_ret
  exact ⟨yab H.out.symm, rfl⟩
 rcases Bool.eq_false_or_eq_true (s.toList == [98, 111, 111, 108]) with q3 | q3
 ·have H := Lib.hid (yat s _ (by decide) q3)
  go_enter Tryz.func306, Tryz.ntmps306
  go_wp2
  go_ret
  exact ⟨yab H.out.symm, rfl⟩
 rcases Bool.eq_false_or_eq_true (s.toList == [112, 111, 114, 116]) with q4 | q4
 ·have H := Lib.hid (yat s _ (by decide) q4)
  go_enter Tryz.func306, Tryz.ntmps306
  go_wp2
  go_ret
  exact ⟨yab H.out.symm, rfl⟩
 rcases Bool.eq_false_or_eq_true (s.toList == [116, 114, 117, 101]) with q5 | q5
 ·have H := Lib.hid (yat s _ (by decide) q5)
  go_enter Tryz.func306, Tryz.ntmps306
  go_wp2
  go_ret
  exact ⟨yab H.out.symm, rfl⟩
 rcases Bool.eq_false_or_eq_true (s.toList == [102, 97, 108, 115, 101]) with q6 | q6
 ·have H := Lib.hid (yat s _ (by decide) q6)
  go_enter Tryz.func306, Tryz.ntmps306
  go_wp2
  go_ret
  exact ⟨yab H.out.symm, rfl⟩
 rcases Bool.eq_false_or_eq_true (s.toList == [110, 111, 110, 101]) with q7 | q7
 ·have H := Lib.hid (yat s _ (by decide) q7)
  go_enter Tryz.func306, Tryz.ntmps306
  go_wp2
  go_ret
  exact ⟨yab H.out.symm, rfl⟩
 rcases Bool.eq_false_or_eq_true (s.toList == [110]) with q8 | q8
 ·have H := Lib.hid (yat s _ (by decide) q8)
  go_enter Tryz.func306, Tryz.ntmps306
  go_wp2
  go_ret
  exact ⟨yab H.out.symm, rfl⟩
 rcases Bool.eq_false_or_eq_true (s.toList == [105, 100, 115]) with q9 | q9
 ·have H := Lib.hid (yat s _ (by decide) q9)
  go_enter Tryz.func306, Tryz.ntmps306
  go_wp2
  go_ret
  exact ⟨yab H.out.symm, rfl⟩
 rcases Bool.eq_false_or_eq_true (s.toList == [105, 100]) with q10 | q10
 ·have H := Lib.hid (yat s _ (by decide) q10)
  go_enter Tryz.func306, Tryz.ntmps306
  go_wp2
  go_ret
  exact ⟨yab H.out.symm, rfl⟩
 rcases Bool.eq_false_or_eq_true (s.toList == [100, 101, 103]) with q11 | q11
 ·have H := Lib.hid (yat s _ (by decide) q11)
  go_enter Tryz.func306, Tryz.ntmps306
  go_wp2
  go_ret
  exact ⟨yab H.out.symm, rfl⟩
 rcases Bool.eq_false_or_eq_true (s.toList == [114, 111, 111, 116]) with q12 | q12
 ·have H := Lib.hid (yat s _ (by decide) q12)
  go_enter Tryz.func306, Tryz.ntmps306
  go_wp2
  go_ret
  exact ⟨yab H.out.symm, rfl⟩
 rcases Bool.eq_false_or_eq_true (s.toList == [113]) with q13 | q13
 ·have H := Lib.hid (yat s _ (by decide) q13)
  go_enter Tryz.func306, Tryz.ntmps306
  go_wp2
  go_ret
  exact ⟨yab H.out.symm, rfl⟩
 rcases Bool.eq_false_or_eq_true (s.toList == [119, 101, 105, 103, 104, 116]) with q14 | q14
 ·have H := Lib.hid (yat s _ (by decide) q14)
  go_enter Tryz.func306, Tryz.ntmps306
  go_wp2
  go_ret
  exact ⟨yab H.out.symm, rfl⟩
 rcases Bool.eq_false_or_eq_true (s.toList == [98, 97, 99, 107]) with q15 | q15
 ·have H := Lib.hid (yat s _ (by decide) q15)
  go_enter Tryz.func306, Tryz.ntmps306
  go_wp2
  go_ret
  exact ⟨yab H.out.symm, rfl⟩
 rcases Bool.eq_false_or_eq_true (s.toList == [97, 108, 108]) with q16 | q16
 ·have H := Lib.hid (yat s _ (by decide) q16)
  go_enter Tryz.func306, Tryz.ntmps306
  go_wp2
  go_ret
  exact ⟨yab H.out.symm, rfl⟩
 rcases Bool.eq_false_or_eq_true (s.toList == [115, 111, 109, 101]) with q17 | q17
 ·have H := Lib.hid (yat s _ (by decide) q17)
  go_enter Tryz.func306, Tryz.ntmps306
  go_wp2
  go_ret
  exact ⟨yab H.out.symm, rfl⟩
 rcases Bool.eq_false_or_eq_true (s.toList == [99, 111, 117, 110, 116]) with q18 | q18
 ·have H := Lib.hid (yat s _ (by decide) q18)
  go_enter Tryz.func306, Tryz.ntmps306
  go_wp2
  go_ret
  exact ⟨yab H.out.symm, rfl⟩
 rcases Bool.eq_false_or_eq_true (s.toList == [102, 105, 114, 115, 116]) with q19 | q19
 ·have H := Lib.hid (yat s _ (by decide) q19)
  go_enter Tryz.func306, Tryz.ntmps306
  go_wp2
  go_ret
  exact ⟨yab H.out.symm, rfl⟩
 rcases Bool.eq_false_or_eq_true (s.toList == [109, 105, 110]) with q20 | q20
 ·have H := Lib.hid (yat s _ (by decide) q20)
  go_enter Tryz.func306, Tryz.ntmps306
  go_wp2
  go_ret
  exact ⟨yab H.out.symm, rfl⟩
 rcases Bool.eq_false_or_eq_true (s.toList == [109, 97, 120]) with q21 | q21
 ·have H := Lib.hid (yat s _ (by decide) q21)
  go_enter Tryz.func306, Tryz.ntmps306
  go_wp2
  go_ret
  exact ⟨yab H.out.symm, rfl⟩
 rcases Bool.eq_false_or_eq_true (s.toList == [115, 117, 109]) with q22 | q22
 ·have H := Lib.hid (yat s _ (by decide) q22)
  go_enter Tryz.func306, Tryz.ntmps306
  go_wp2
  go_ret
  exact ⟨yab H.out.symm, rfl⟩
 rcases Bool.eq_false_or_eq_true (s.toList == [109, 101, 120]) with q23 | q23
 ·have H := Lib.hid (yat s _ (by decide) q23)
  go_enter Tryz.func306, Tryz.ntmps306
  go_wp2
  go_ret
  exact ⟨yab H.out.symm, rfl⟩
 rcases Bool.eq_false_or_eq_true (s.toList == [115, 101, 99, 111, 110, 100]) with q24 | q24
 ·have H := Lib.hid (yat s _ (by decide) q24)
  go_enter Tryz.func306, Tryz.ntmps306
  go_wp2
  go_ret
  exact ⟨yab H.out.symm, rfl⟩
 rcases Bool.eq_false_or_eq_true (s.toList == [104, 101, 97, 100]) with q25 | q25
 ·have H := Lib.hid (yat s _ (by decide) q25)
  go_enter Tryz.func306, Tryz.ntmps306
  go_wp2
  go_ret
  exact ⟨yab H.out.symm, rfl⟩
 have H := Lib.hid (zpm s q0 q1 q2 q3 q4 q5 q6 q7 q8 q9 q10 q11 q12 q13 q14 q15 q16 q17 q18 q19 q20 q21 q22 q23 q24 q25)
 go_enter Tryz.func306, Tryz.ntmps306
 go_wp2
 go_ret
 exact ⟨yab H.out.symm, rfl⟩
theorem yjy (s : ByteArray) (w : World) (hs : s.size ≤ 9223372036854775807) :
  Calls Tryz.prog 214 #[.string s] w fun e w' => e = .returned (.bool (yij s)) ∧ w = w' := by
 by_cases h0 : s.size = 0
 ·have H := Lib.hid (yxo s h0)
  have h0' : s.size < 1 := by omega
  clear h0
  go_enter Tryz.func214, Tryz.ntmps214
  go_wp2
  go_ret
  exact ⟨yab H.out.symm, rfl⟩
 have h0' : 0 < s.size := by omega
 clear h0
 by_cases h24 : 24 < s.size
 ·have H := Lib.hid (zan s h24)
  go_enter Tryz.func214, Tryz.ntmps214
  go_wp2
  go_ret
  exact ⟨yab H.out.symm, rfl⟩
 cases hl : ygp s[0]
 ·have H := Lib.hid (yuo s h0' hl)
  go_enter Tryz.func214, Tryz.ntmps214
  go_wp2_with (go_at_call 206; refine (yta _ _).mono ?_; rintro e w' ⟨rfl, rfl⟩)
  go_ret
  exact ⟨yab H.out.symm, rfl⟩
 go_enter Tryz.func214, Tryz.ntmps214
 go_wp2_with (go_at_call 206; refine (yta _ _).mono ?_; rintro e w' ⟨rfl, rfl⟩)
 go_loop [3, 20] (fun _ i => ∃ k : Nat, k ≤ s.size ∧ i = .int .i64 k ∧ Hid (((ybb s 0).take k).all ylo = true)) (fun _ i => s.size - (intOf i).toNat)
 case atStart => exact ⟨0, by omega, rfl, rfl⟩
 case round =>
  obtain ⟨k, hk, rfl, ha⟩ := hrel
  by_cases hlt : k < s.size
  ·cases hw : ylo s[k]
   ·have H := Lib.hid (zap s k hlt hw)
    go_wp2_with (go_at_call 207; refine (zaf _ _).mono ?_; rintro e w' ⟨rfl, rfl⟩)
    go_ret
    exact ⟨yab H.out.symm, rfl⟩
   ·have H := Lib.hid (zjd s k hlt ha.out hw)
    go_wp2_with (go_at_call 207; refine (zaf _ _).mono ?_; rintro e w' ⟨rfl, rfl⟩)
    exact ⟨⟨k + 1, by omega, by go_num, H⟩, by simp [intOf]; omega⟩
  ·obtain rfl : k = s.size := by omega
   have H := Lib.hid (zao s h0' (by omega) hl ha.out)
   go_wp2_with (go_at_call 251; refine (reserved_any _ _).mono ?_; rintro e w' ⟨rfl, rfl⟩)
   go_ret
   exact ⟨yab H.out.symm, rfl⟩
set_option maxHeartbeats 1000000 in
theorem ylm (s : ByteArray) (w : World) (hs : s.size ≤ 9223372036854775807) :
  Calls Tryz.prog 284 #[.string s] w fun e w' => e = .returned (.bool (yij s)) ∧ w = w' := by
 by_cases h0 : s.size = 0
 ·have H := Lib.hid (yxo s h0)
  have h0' : s.size < 1 := by omega
  clear h0
  go_enter Tryz.func284, Tryz.ntmps284
  go_wp2
  go_ret
  exact ⟨yab H.out.symm, rfl⟩
 have h0' : 0 < s.size := by omega
 clear h0
 by_cases h24 : 24 < s.size
 ·have H := Lib.hid (zan s h24)
  go_enter Tryz.func284, Tryz.ntmps284
  go_wp2
  go_ret
  exact ⟨yab H.out.symm, rfl⟩
 cases hl : ygp s[0]
 ·have H := Lib.hid (yuo s h0' hl)
  go_enter Tryz.func284, Tryz.ntmps284
  go_wp2_with (go_at_call 304; refine (yqr _ _).mono ?_; rintro e w' ⟨rfl, rfl⟩)
  go_ret
  exact ⟨yab H.out.symm, rfl⟩
 go_enter Tryz.func284, Tryz.ntmps284
 go_wp2_with (go_at_call 304; refine (yqr _ _).mono ?_; rintro e w' ⟨rfl, rfl⟩)
 go_loop [3] (fun i => ∃ k : Nat, k ≤ s.size ∧ i = .int .i64 k ∧ Hid (((ybb s 0).take k).all ylo = true)) (fun i => s.size - (intOf i).toNat)
 case atStart => exact ⟨1, by omega, rfl, by rw [yjs s 0 h0']; show (List.take 1 _).all ylo = true; simp [ylo, hl]⟩
 case round =>
  obtain ⟨k, hk, rfl, ha⟩ := hrel
  by_cases hlt : k < s.size
  ·cases hw : ylo s[k]
   ·have H := Lib.hid (zap s k hlt hw)
    go_wp2_with (go_at_call 305; refine (zax _ _).mono ?_; rintro e w' ⟨rfl, rfl⟩)
    go_ret
    exact ⟨yab H.out.symm, rfl⟩
   ·have H := Lib.hid (zjd s k hlt ha.out hw)
    go_wp2_with (go_at_call 305; refine (zax _ _).mono ?_; rintro e w' ⟨rfl, rfl⟩)
    exact ⟨⟨k + 1, by omega, by go_num, H⟩, by simp [intOf]; omega⟩
  ·obtain rfl : k = s.size := by omega
   have H := Lib.hid (zao s h0' (by omega) hl ha.out)
   go_wp2_with (go_at_call 306; refine (rreserved_any _ _).mono ?_; rintro e w' ⟨rfl, rfl⟩)
   go_ret
   exact ⟨yab H.out.symm, rfl⟩
end
section
open Go.RowKit
def ymv (s : ByteArray) : List UInt8 := s.data.toList
theorem yvp (a b : ByteArray) : (a.toList == b.toList) = decide (ymv a = ymv b) := by
 rw [ByteArray.toList_eq, ByteArray.toList_eq, Bool.eq_iff_iff]; simp [ymv]
def yfn (l : List ByteArray) : Bool := l.all yij && decide ((l.map ymv).Nodup)
theorem yrq {l : List ByteArray} (k : Nat) (hk : k < l.length) (h : yij l[k] = false) : yfn l = false := by
 unfold yfn
 have : l.all yij = false := by rw [List.all_eq_false]; exact ⟨l[k], List.getElem_mem hk, by simp [h]⟩
 rw [this]; rfl
theorem yqn {l : List ByteArray} (j k : Nat) (hjk : j < k) (hk : k < l.length) (h : ymv (l[j]'(by omega)) = ymv l[k]) : yfn l = false := by
 unfold yfn
 have : ¬ (l.map ymv).Nodup := by
  intro hn
  have hn' := List.pairwise_iff_getElem.1 hn j k (by simp; omega) (by simpa using hk) hjk
  apply hn'
  simp [h]
 simp [this]
theorem yor {l : List ByteArray} (k : Nat) (hk : k < l.length) (h : yfn (l.take k) = true) (h1 : yij l[k] = true) (h2 : ymv l[k] ∉ (l.take k).map ymv) : yfn (l.take (k + 1)) = true := by
 unfold yfn at *
 rw [Bool.and_eq_true, decide_eq_true_eq] at *
 rw [List.take_succ_eq_append_getElem hk, List.all_append, h.1, List.map_append]
 refine ⟨by simpa using h1, ?_⟩
 rw [List.nodup_append]
 refine ⟨h.2, by simp, ?_⟩
 intro a ha b hb
 simp only [List.map_singleton, List.mem_singleton] at hb
 subst hb
 intro hab
 exact h2 (hab ▸ ha)
theorem mem_names {l : List ByteArray} {k : Nat} {x : List UInt8} (h : x ∈ (l.take k).map ymv) : ∃ j, ∃ h : j < l.length, j < k ∧ ymv l[j] = x := by
 rw [List.mem_map] at h
 obtain ⟨s, hs, rfl⟩ := h
 obtain ⟨j, hj⟩ := List.getElem?_of_mem hs
 have hjk : j < k := by
  have := (List.getElem?_eq_some_iff.1 hj).1
  rw [List.length_take] at this; omega
 rw [List.getElem?_take, if_pos hjk] at hj
 obtain ⟨h1, h2⟩ := List.getElem?_eq_some_iff.1 hj
 exact ⟨j, h1, hjk, by rw [h2]⟩
theorem yxp {l : List ByteArray} {k : Nat} (hk : k < l.length) (h : ymv l[k] ∈ (l.take k).map ymv) : yfn l = false := by
 obtain ⟨j, hj, hjk, he⟩ := mem_names h
 exact yqn j k hjk hk he
def yct (p : ProgD) : Bool := yij p.name && (yfn (p.vars.map (·.name)) && yfn (p.rules.map (·.name)))
def ybs (r : RuleD) (n : Int) : Bool :=
 decide (1 ≤ r.sets.length) && (decide (r.sets.length ≤ 6) && (ydc r.guard n && (r.sets.all (fun s => ycg s.var 0 (n - 1) && ydc s.val n) && decide ((r.sets.map (·.var)).Nodup))))
def yew (r : RuleD) (kinds : List Int) : Bool := ((ofF r.guard kinds false).1 == 2) && r.sets.all (fun s => (ofF s.val kinds false).1 == kinds.getD s.var.toNat 0)
def ybg (p : ProgD) : List Int := p.vars.map (·.kind)
def ycx (p : ProgD) : Int :=
 if p.vars.length = 0 ∨ 6 < p.vars.length ∨ 12 < p.rules.length then 3 else if yct p = false then 5 else if p.vars.all ylq = false then 2 else
 if p.rules.all (ybs · p.vars.length) = false then 7 else if p.rules.all (yew · (ybg p)) = false then 6 else 0
theorem ygm {α : Type} {f : α → Bool} {l : List α} (k : Nat) (hk : k < l.length) (h : f l[k] = false) : l.all f = false := by
 rw [List.all_eq_false]; exact ⟨l[k], List.getElem_mem hk, by simp [h]⟩
theorem ygn {α : Type} {f : α → Bool} {l : List α} (k : Nat) (hk : k < l.length) (h : (l.take k).all f = true) (hw : f l[k] = true) : (l.take (k + 1)).all f = true := by
 rw [List.take_succ_eq_append_getElem hk, List.all_append, h]; simp [hw]
theorem yiy {α : Type} {f : α → Bool} {l : List α} (h : (l.take l.length).all f = true) : l.all f = true := by rw [List.take_length] at h; exact h
end
section
open Go.RowKit Go.Maps
def ymk (P : Program) (k e : TypeId) (w : World) (b n : Nat) (S : List Lit) : Prop :=
 ∃ D : DataW Unit, w.ownsMap P k (plainElem P e) b n D ∧ ∀ kl, (kl ∈ S → D.atKey kl (.lit (.bool false)) = .lit (.bool true)) ∧ (kl ∉ S → D.atKey kl (.lit (.bool false)) = .lit (.bool false))
section
variable {P : Program} {k e t : TypeId} {w w' : World} {b n : Nat} {S : List Lit}
theorem yqt (P : Program) (k e : TypeId) (w : World) : ymk P k e (w.alloc (.map #[] 0)) w.heap.size 0 [] :=
 ⟨.map [], World.ownsMap_made w P k _, fun kl => ⟨fun h => by simp at h, fun _ => by simp [DataW.atKey]⟩⟩
theorem ymk.lt (h : ymk P k e w b n S) : b < w.heap.size := by obtain ⟨D, h, _⟩ := h; exact h.lt
theorem ymk.below (h : ymk P k e w b n S) (hb : Below w.heap.size w w') : ymk P k e w' b n S := by
 have hl := h.lt
 obtain ⟨D, ⟨es, clock, h1, h2⟩, h3⟩ := h
 exact ⟨D, ⟨es, clock, (hb.block b hl).trans h1, h2⟩, h3⟩
theorem plainElem_bool_inv (he : P.underlying e = some .bool) {v : Value} {z : DataW Unit × List MemPlace} (h : plainElem P e v = some z) : ∃ x, v = .bool x ∧ z = (.lit (.bool x), []) := by
 unfold plainElem at h
 rw [he] at h
 cases v <;> simp at h
 exact ⟨_, rfl, h.symm⟩
theorem ymk.look (h : ymk P k e w b n S) (K : Keyed P k) (ht : P.underlying t = some (.map k e)) (he : P.underlying e = some .bool) (hz : (zeroValue e).run P w = .ok (.bool false) w) {key : Value} {kl : Lit} (hkey : keyOf P k key = some kl) (x : Bool) (hx : (kl ∈ S ∧ x = true) ∨ (kl ∉ S ∧ x = false)) :
  (Instr.lookup t (.map (some b)) key false).run P w = .ok (.bool x) w := by
 obtain ⟨D, h1, h2⟩ := h
 obtain ⟨v, ps, hrun, hv⟩ := h1.lookup K ht hz (plainElem_bool he false) hkey
 obtain ⟨y, rfl, hy⟩ := plainElem_bool_inv he hv
 rcases hx with ⟨h3, rfl⟩ | ⟨h3, rfl⟩
 ·rw [(h2 kl).1 h3] at hy
  simp only [Prod.mk.injEq, DataW.lit.injEq, Lit.bool.injEq] at hy
  obtain ⟨rfl, _⟩ := hy
  exact hrun
 ·rw [(h2 kl).2 h3] at hy
  simp only [Prod.mk.injEq, DataW.lit.injEq, Lit.bool.injEq] at hy
  obtain ⟨rfl, _⟩ := hy
  exact hrun
theorem yhl {ops : Array Oper} {rest : List Oper} {o : Oper} {a : Act} {Q : Exit → Act → World → Prop}
  (hg : o.guard = none) (m x v : Operand) (t : TypeId) (hop : o.op = Op.mapUpdate t m x v)
  (k e : TypeId) (K : Keyed P k) (ht : P.underlying t = some (.map k e)) (he : P.underlying e = some .bool) (b n : Nat) (S : List Lit)
  (hm : a.eval m = .map (some b)) (hown : ymk P k e w b n S) (hn : n < maxLen) (key : Value) (kl : Lit) (hx : a.eval x = key) (hv : a.eval v = .bool true) (hkey : keyOf P k key = some kl)
  (hK : ∀ w', ymk P k e w' b (n + 1) (S ++ [kl]) → w.grownBy w' (some b) → wpList P ops Q rest (a.put o.dst undef) w') :
  wpList P ops Q (o :: rest) a w := by
 obtain ⟨D, h1, h2⟩ := hown
 refine wpList_mapUpdate_own w hg m x v t hop k e K ht (plainElem P e) b n D hm h1 hn key (.bool true) kl hx hv hkey (.lit (.bool true)) [] (plainElem_bool he true) (fun w' h3 h4 => hK w' ⟨_, h3, fun kl' => ?_⟩ h4)
 by_cases hkl : kl' = kl
 ·subst hkl
  refine ⟨fun _ => atKey_put_same h1.isMap (K.key hkey) _ _, fun h => absurd (by simp) h⟩
 ·rw [atKey_put_other hkl]
  exact ⟨fun h => (h2 kl').1 (by simpa [hkl] using h), fun h => (h2 kl').2 (by simpa [hkl] using h)⟩
end
end
section
open Go.RowKit Go.Maps
theorem yhg : Keyed Tryz.prog 9 := string_keyed Tryz.underlying9
theorem ypc (w : World) : (zeroValue 4).run Tryz.prog w = .ok (.bool false) w := by kernel_rfl
theorem ylb (s : ByteArray) (h : s.size ≤ 9223372036854775807) : keyOf Tryz.prog 9 (.string s) = some (.string (ymv s)) := WideMaps.keyOf_string_mk Tryz.underlying9 (by unfold maxLen; omega)
theorem ycv {w wr : World} {xs : Array Value} {T : TypeId} (hb : Below (w.heap.size + 1) (w.alloc (.cells xs T)) wr) (j : Nat) : wr.cell? ⟨w.heap.size, j, none⟩ = xs[j]? := by
 rw [hb.cell (p := ⟨w.heap.size, j, none⟩) (by simp)]
 have h1 : (w.alloc (.cells xs T)).heap[w.heap.size]? = some (.cells xs T) := heap_alloc_new w _
 unfold World.cell?
 simp only [h1]
 simp
theorem yaz {w wr : World} {xs : Array Value} {T : TypeId} (hb : Below (w.heap.size + 1) (w.alloc (.cells xs T)) wr) : Below w.heap.size w wr :=
 ((Below.refl _ _).alloc (Nat.le_refl _) _).trans (hb.mono (by omega))
theorem yci {w wr : World} {xs : Array Value} {T : TypeId} (hb : Below (w.heap.size + 1) (w.alloc (.cells xs T)) wr) : w.heap.size + 1 ≤ wr.heap.size := by
 have := hb.size; simpa using this
def zms (l : List ByteArray) : List Lit := l.map fun s => .string (ymv s)
theorem yvo {l : List ByteArray} {x : List UInt8} : Lit.string x ∈ zms l ↔ x ∈ l.map ymv := by
 unfold zms
 simp only [List.mem_map, Lit.string.injEq]
theorem zfq (l : List ByteArray) (k : Nat) (hk : k < l.length) : zms (l.take k) ++ [.string (ymv l[k])] = zms (l.take (k + 1)) := by
 unfold zms; rw [List.take_succ_eq_append_getElem hk, List.map_append]; rfl
def zne (l : List ByteArray) (M k : Nat) (wr : World) : Prop := ymk Tryz.prog 9 4 wr M k (zms (l.take k)) ∧ yfn (l.take k) = true
set_option maxHeartbeats 8000000 in
theorem zfz (v : Value) (p : ProgD) (w : World) (hv : ygy w v p) (hin : ygx p) (h6 : p.vars.length ≤ 1000) (h12 : p.rules.length ≤ 1000) :
  Calls Tryz.prog 159 #[v] w fun e w' => e = .returned (.bool (yct p)) ∧ Below w.heap.size w w' := by
 obtain ⟨vv, rv, rfl, hvv, hrv⟩ := hv
 obtain ⟨hn0, hnv, hnr⟩ := hin
 have HNV := Lib.hid hnv
 have HNR := Lib.hid hnr
 obtain ⟨a0, cap0, rfl, i1, i2, i3⟩ := hvv.open
 obtain ⟨a1, cap1, rfl, j1, j2, j3⟩ := hrv.open
 have HVC := Lib.hid i3
 have HRC := Lib.hid j3
 have hmm := @run_makeMap Tryz.prog
 clear i3 j3 hvv hrv hnv hnr
 rcases Bool.eq_false_or_eq_true (yij p.name) with q0 | q0
 rotate_left
 ·have H := Lib.hid (show yct p = false by unfold yct; rw [q0]; rfl)
  go_enter Tryz.func159, Tryz.ntmps159
  go_wp2_with (go_at_call 214; refine (yjy _ _ hn0).mono ?_; rintro e w1 ⟨rfl, rfl⟩)
  go_ret
  exact ⟨yab H.out.symm, (Below.refl _ _).alloc (Nat.le_refl _) _⟩
 have H0 := Lib.hid (show yct p = (yfn (p.vars.map (·.name)) && yfn (p.rules.map (·.name))) by unfold yct; rw [q0]; rfl)
 go_enter Tryz.func159, Tryz.ntmps159
 go_wp2_with (go_at_call 214; refine (yjy _ _ hn0).mono ?_; rintro e w1 ⟨rfl, rfl⟩)
 go_loopw [5, 17] (fun _ i wr => ∃ k : Nat, k ≤ p.vars.length ∧ i = .int .i64 k ∧ Hid (zne (p.vars.map (·.name)) (w.heap.size + 1) k wr) ∧ Hid (Below (w.heap.size + 1) (w.alloc (.cells #[.string p.name, .slice a0 p.vars.length cap0, .slice a1 p.rules.length cap1] 25)) wr)) (fun _ i _ => p.vars.length - (intOf i).toNat)
 case atStart => exact ⟨0, by omega, rfl, ⟨by rw [List.take_zero]; simpa [zms] using yqt Tryz.prog 9 4 (w.alloc (.cells #[.string p.name, .slice a0 p.vars.length cap0, .slice a1 p.rules.length cap1] 25)), rfl⟩, (Below.refl _ _).alloc (by simp) _⟩
 case round =>
  obtain ⟨k, hk, rfl, hset, hbel⟩ := hrel
  have hbw := yaz hbel.out
  have hbs := yci hbel.out
  by_cases hlt : k < p.vars.length
  ·obtain ⟨g, o, rfl, hg, hc⟩ := HVC.out (by omega)
   obtain ⟨x, hx⟩ : ∃ x, p.vars[k]? = some x := ⟨_, List.getElem?_eq_getElem hlt⟩
   obtain ⟨c0, c1, c2, c3, c4, c5⟩ := hc k x hx
   rw [← hbw.cell (p := ⟨g, _, none⟩) hg] at c0 c1 c2 c3 c4 c5
   have hxn := (HNV.out x (List.mem_of_getElem? hx)).1
   have hlm : k < (p.vars.map (·.name)).length := by simpa using hlt
   have hgx : (p.vars.map (·.name))[k] = x.name := by
    obtain ⟨_, h2⟩ := List.getElem?_eq_some_iff.1 hx
    simp [h2]
   clear hc
   rcases Bool.eq_false_or_eq_true (yij x.name) with q1 | q1
   rotate_left
   ·have H := Lib.hid (show yct p = false by rw [H0.out, yrq k hlm (by rw [hgx]; exact q1)]; rfl)
    clear hx hgx
    go_wp2_with (go_at_call 214; refine (yjy _ _ hxn).mono ?_; rintro e w1 ⟨rfl, rfl⟩)
    go_ret
    exact ⟨yab H.out.symm, hbw.alloc (by omega) _⟩
   by_cases hmem : ymv x.name ∈ ((p.vars.map (·.name)).take k).map ymv
   ·have H := Lib.hid (show yct p = false by rw [H0.out, yxp hlm (by rw [hgx]; exact hmem)]; rfl)
    have yad : ∀ ob : Obj, (Instr.lookup 291 (.map (some (w.heap.size + 1))) (.string x.name) false).run Tryz.prog (wr.alloc ob) = .ok (.bool true) (wr.alloc ob) := fun ob =>
     (hset.out.1.below ((Below.refl _ _).alloc (Nat.le_refl _) ob)).look yhg Tryz.underlying291 Tryz.underlying4 (ypc _) (ylb x.name hxn) true (.inl ⟨yvo.2 hmem, rfl⟩)
    clear hx hgx hmem
    go_wp2_with (go_at_call 214; refine (yjy _ _ hxn).mono ?_; rintro e w1 ⟨rfl, rfl⟩)
    go_ret
    exact ⟨yab H.out.symm, hbw.alloc (by omega) _⟩
   ·have yad : ∀ ob : Obj, (Instr.lookup 291 (.map (some (w.heap.size + 1))) (.string x.name) false).run Tryz.prog (wr.alloc ob) = .ok (.bool false) (wr.alloc ob) := fun ob =>
     (hset.out.1.below ((Below.refl _ _).alloc (Nat.le_refl _) ob)).look yhg Tryz.underlying291 Tryz.underlying4 (ypc _) (ylb x.name hxn) false (.inr ⟨fun h => hmem (yvo.1 h), rfl⟩)
    have HS := Lib.hid (yor k hlm hset.out.2 (by rw [hgx]; exact q1) (by rw [hgx]; exact hmem))
    have HL := Lib.hid (show zms ((p.vars.map (·.name)).take k) ++ [.string (ymv x.name)] = zms ((p.vars.map (·.name)).take (k + 1)) by rw [← zfq _ k hlm, hgx])
    clear hx hgx hmem
    go_wp2_with (first | (go_at_call 214; refine (yjy _ _ hxn).mono ?_; rintro e w1 ⟨rfl, rfl⟩) | (at_mapUpdate; refine yhl rfl _ _ _ 291 rfl 9 4 yhg Tryz.underlying291 Tryz.underlying4 (w.heap.size + 1) k _ rfl (by exact hset.out.1.below ((Below.refl _ _).alloc (Nat.le_refl _) _)) (by unfold maxLen; omega) _ (.string (ymv x.name)) rfl rfl (ylb x.name hxn) ?_; intro w2 hset2 hgrow))
    refine ⟨⟨k + 1, by omega, by go_num, ⟨?_, HS.out⟩, ?_⟩, by simp [intOf]; omega⟩
    ·rw [HL.out] at hset2; exact hset2
    ·exact (hbel.out.alloc hbs _).grown hgrow (by simp; omega) (fun q hq => by cases hq; exact Nat.le_refl _)
  ·obtain rfl : k = p.vars.length := by omega
   obtain ⟨wo, rfl⟩ : ∃ wo : World, wo = wr := ⟨_, rfl⟩
   have hnv : yfn (p.vars.map (·.name)) = true := by
    have := hset.out.2
    rw [List.take_of_length_le (by simp)] at this
    exact this
   have H1 := Lib.hid (show yct p = yfn (p.rules.map (·.name)) by rw [H0.out, hnv]; rfl)
   have hbox := ycv hbel.out 2
   clear hnv hset H0
   simp at hbox
   have hne : w.heap.size ≠ wo.heap.size := by omega
   have hlt0 : w.heap.size < wo.heap.size := by omega
   go_wp2_with fail
   have hb0 : Below (w.heap.size + 1) (w.alloc (.cells #[.string p.name, .slice a0 p.vars.length cap0, .slice a1 p.rules.length cap1] 25)) (wo.alloc (.map #[] 0)) := hbel.out.alloc hbs _
   go_loopw [8, 39] (fun _ i wr => ∃ k : Nat, k ≤ p.rules.length ∧ i = .int .i64 k ∧ Hid (zne (p.rules.map (·.name)) wo.heap.size k wr) ∧ Hid (Below (w.heap.size + 1) (w.alloc (.cells #[.string p.name, .slice a0 p.vars.length cap0, .slice a1 p.rules.length cap1] 25)) wr)) (fun _ i _ => p.rules.length - (intOf i).toNat)
   case atStart => exact ⟨0, by omega, rfl, ⟨by rw [List.take_zero]; simpa [zms] using yqt Tryz.prog 9 4 wo, rfl⟩, hb0⟩
   case round =>
    clear hbox hb0 hne hlt0 hbel hbw
    obtain ⟨k, hk, rfl, hset, hbel⟩ := hrel
    have hbw := yaz hbel.out
    have hbs2 := yci hbel.out
    by_cases hlt : k < p.rules.length
    ·obtain ⟨g, o, rfl, hg, hc⟩ := HRC.out (by omega)
     obtain ⟨x, hx⟩ : ∃ x, p.rules[k]? = some x := ⟨_, List.getElem?_eq_getElem hlt⟩
     obtain ⟨gv, sv, ht, hs, c0, c1, c2⟩ := hc k x hx
     obtain ⟨ga, gcap, rfl, _, _, _⟩ := ht.open
     obtain ⟨sa, scap, rfl, _, _, _⟩ := yfy hs
     rw [← hbw.cell (p := ⟨g, _, none⟩) hg] at c0 c1 c2
     have hxn := (HNR.out x (List.mem_of_getElem? hx)).1
     have hlm : k < (p.rules.map (·.name)).length := by simpa using hlt
     have hgx : (p.rules.map (·.name))[k] = x.name := by
      obtain ⟨_, h2⟩ := List.getElem?_eq_some_iff.1 hx
      simp [h2]
     clear hc ht hs
     rcases Bool.eq_false_or_eq_true (yij x.name) with q1 | q1
     rotate_left
     ·have H := Lib.hid (show yct p = false by rw [H1.out, yrq k hlm (by rw [hgx]; exact q1)])
      clear hx hgx
      go_wp2_with (go_at_call 214; refine (yjy _ _ hxn).mono ?_; rintro e w1 ⟨rfl, rfl⟩)
      go_ret
      exact ⟨yab H.out.symm, hbw.alloc (by omega) _⟩
     by_cases hmem : ymv x.name ∈ ((p.rules.map (·.name)).take k).map ymv
     ·have H := Lib.hid (show yct p = false by rw [H1.out, yxp hlm (by rw [hgx]; exact hmem)])
      have yad : ∀ ob : Obj, (Instr.lookup 291 (.map (some wo.heap.size)) (.string x.name) false).run Tryz.prog (wr.alloc ob) = .ok (.bool true) (wr.alloc ob) := fun ob =>
       (hset.out.1.below ((Below.refl _ _).alloc (Nat.le_refl _) ob)).look yhg Tryz.underlying291 Tryz.underlying4 (ypc _) (ylb x.name hxn) true (.inl ⟨yvo.2 hmem, rfl⟩)
      clear hx hgx hmem
      go_wp2_with (go_at_call 214; refine (yjy _ _ hxn).mono ?_; rintro e w1 ⟨rfl, rfl⟩)
      go_ret
      exact ⟨yab H.out.symm, hbw.alloc (by omega) _⟩
     ·have yad : ∀ ob : Obj, (Instr.lookup 291 (.map (some wo.heap.size)) (.string x.name) false).run Tryz.prog (wr.alloc ob) = .ok (.bool false) (wr.alloc ob) := fun ob =>
       (hset.out.1.below ((Below.refl _ _).alloc (Nat.le_refl _) ob)).look yhg Tryz.underlying291 Tryz.underlying4 (ypc _) (ylb x.name hxn) false (.inr ⟨fun h => hmem (yvo.1 h), rfl⟩)
      have HS := Lib.hid (yor k hlm hset.out.2 (by rw [hgx]; exact q1) (by rw [hgx]; exact hmem))
      have HL := Lib.hid (show zms ((p.rules.map (·.name)).take k) ++ [.string (ymv x.name)] = zms ((p.rules.map (·.name)).take (k + 1)) by rw [← zfq _ k hlm, hgx])
      clear hx hgx hmem
      go_wp2_with (first | (go_at_call 214; refine (yjy _ _ hxn).mono ?_; rintro e w1 ⟨rfl, rfl⟩) | (at_mapUpdate; refine yhl rfl _ _ _ 291 rfl 9 4 yhg Tryz.underlying291 Tryz.underlying4 wo.heap.size k _ rfl (by exact hset.out.1.below ((Below.refl _ _).alloc (Nat.le_refl _) _)) (by unfold maxLen; omega) _ (.string (ymv x.name)) rfl rfl (ylb x.name hxn) ?_; intro w2 hset2 hgrow))
      refine ⟨⟨k + 1, by omega, by go_num, ⟨?_, HS.out⟩, ?_⟩, by simp [intOf]; omega⟩
      ·rw [HL.out] at hset2; exact hset2
      ·exact (hbel.out.alloc hbs2 _).grown hgrow (by simp; omega) (fun q hq => by cases hq; exact hbs)
    ·obtain rfl : k = p.rules.length := by omega
     have H := hset.out.2
     rw [List.take_of_length_le (by simp)] at H
     have H2 := Lib.hid (show yct p = true by rw [H1.out, H])
     clear H
     go_wp2_with fail
     go_ret
     exact ⟨yab H2.out.symm, hbw⟩
end
section
open Go.RowKit Go.Maps
set_option maxHeartbeats 8000000 in
theorem zaz (v : Value) (p : ProgD) (w : World) (hv : ygy w v p) (hin : ygx p) (h6 : p.vars.length ≤ 1000) (h12 : p.rules.length ≤ 1000) :
  Calls Tryz.prog 257 #[v] w fun e w' => e = .returned (.bool (yct p)) ∧ Below w.heap.size w w' := by
 obtain ⟨vv, rv, rfl, hvv, hrv⟩ := hv
 obtain ⟨hn0, hnv, hnr⟩ := hin
 have HNV := Lib.hid hnv
 have HNR := Lib.hid hnr
 obtain ⟨a0, cap0, rfl, i1, i2, i3⟩ := hvv.open
 obtain ⟨a1, cap1, rfl, j1, j2, j3⟩ := hrv.open
 have HVC := Lib.hid i3
 have HRC := Lib.hid j3
 clear i3 j3 hvv hrv hnv hnr
 rcases Bool.eq_false_or_eq_true (yij p.name) with q0 | q0
 rotate_left
 ·have H := Lib.hid (show yct p = false by unfold yct; rw [q0]; rfl)
  go_enter Tryz.func257, Tryz.ntmps257
  go_wp2_with (go_at_call 284; refine (ylm _ _ hn0).mono ?_; rintro e w1 ⟨rfl, rfl⟩)
  go_ret
  exact ⟨yab H.out.symm, (Below.refl _ _).alloc (Nat.le_refl _) _⟩
 have H0 := Lib.hid (show yct p = (yfn (p.vars.map (·.name)) && yfn (p.rules.map (·.name))) by unfold yct; rw [q0]; rfl)
 go_enter Tryz.func257, Tryz.ntmps257
 go_wp2_with (go_at_call 284; refine (ylm _ _ hn0).mono ?_; rintro e w1 ⟨rfl, rfl⟩)
 go_loopw [3, 4] (fun i _ wr => ∃ k : Nat, k ≤ p.vars.length ∧ i = .int .i64 k ∧ Hid (yfn ((p.vars.map (·.name)).take k) = true) ∧ Hid (Below (w.heap.size + 1) (w.alloc (.cells #[.string p.name, .slice a0 p.vars.length cap0, .slice a1 p.rules.length cap1] 25)) wr)) (fun i _ _ => p.vars.length - (intOf i).toNat)
 case atStart => exact ⟨0, by omega, rfl, rfl, Below.refl _ _⟩
 case round =>
  obtain ⟨k, hk, rfl, hset, hbel⟩ := hrel
  have hbw := yaz hbel.out
  have hbs := yci hbel.out
  have hbox := ycv hbel.out 1
  simp at hbox
  by_cases hlt : k < p.vars.length
  ·obtain ⟨x, hx⟩ : ∃ x, p.vars[k]? = some x := ⟨_, List.getElem?_eq_getElem hlt⟩
   have hxn := (HNV.out x (List.mem_of_getElem? hx)).1
   have hlm : k < (p.vars.map (·.name)).length := by simpa using hlt
   have hgx : (p.vars.map (·.name))[k] = x.name := by
    obtain ⟨_, h2⟩ := List.getElem?_eq_some_iff.1 hx
    simp [h2]
   have HX := Lib.hid hx
   have HGX := Lib.hid hgx
   clear hx hgx
   obtain ⟨wo, rfl⟩ : ∃ wo : World, wo = wr := ⟨_, rfl⟩
   go_wp2_with fail
   go_loopw [4] (fun i wr => ∃ j : Nat, j ≤ k ∧ i = .int .i64 j ∧ Hid (ymv x.name ∉ ((p.vars.map (·.name)).take j).map ymv) ∧ Hid (Below (w.heap.size + 1) (w.alloc (.cells #[.string p.name, .slice a0 p.vars.length cap0, .slice a1 p.rules.length cap1] 25)) wr)) (fun i _ => k - (intOf i).toNat)
   case atStart => exact ⟨0, by omega, rfl, (fun h => by simp at h), hbel⟩
   case round =>
    clear hbox hbel hbw hbs
    obtain ⟨j, hj, rfl, hnot, hbel⟩ := hrel
    have hbw := yaz hbel.out
    have hbs := yci hbel.out
    have hbox := ycv hbel.out 1
    simp at hbox
    obtain ⟨g, o, rfl, hg, hc⟩ := HVC.out (by omega)
    have hx := HX.out
    obtain ⟨c0, _, _, _, _, _⟩ := hc k x hx
    by_cases hjk : j < k
    ·obtain ⟨y, hy⟩ : ∃ y, p.vars[j]? = some y := ⟨_, List.getElem?_eq_getElem (by omega)⟩
     obtain ⟨d0, _, _, _, _, _⟩ := hc j y hy
     have hgy : (p.vars.map (·.name))[j]'(by simp; omega) = y.name := by
      obtain ⟨_, h2⟩ := List.getElem?_eq_some_iff.1 hy
      simp [h2]
     have HGY := Lib.hid hgy
     rw [← hbw.cell (p := ⟨g, _, none⟩) hg] at c0 d0
     clear hc hx hy hgy
     by_cases he : ymv y.name = ymv x.name
     ·have hb : (y.name.toList == x.name.toList) = true := by rw [yvp]; simpa using he
      have H := Lib.hid (show yct p = false by rw [H0.out, yqn j k hjk hlm (by rw [HGY.out, HGX.out]; exact he)]; rfl)
      clear he
      go_wp2_with fail
      go_quiet (fail)
      go_wp2_with fail
      go_ret
      exact ⟨yab H.out.symm, below_drewN hbw _⟩
     ·have hb : (y.name.toList == x.name.toList) = false := by rw [yvp]; simpa using he
      have HN2 := Lib.hid (show ymv x.name ∉ ((p.vars.map (·.name)).take (j + 1)).map ymv by
       rw [List.take_succ_eq_append_getElem (show j < (p.vars.map (·.name)).length by simp; omega), List.map_append, List.mem_append, HGY.out]
       rintro (h | h)
       ·exact hnot.out h
       ·simp at h; exact he h.symm)
      clear he
      go_wp2_with fail
      go_quiet (fail)
      go_wp2_with fail
      exact ⟨⟨j + 1, by omega, by go_num, HN2, below_drewN hbel.out _⟩, by simp [intOf]; omega⟩
    ·obtain rfl : j = k := by omega
     rw [← hbw.cell (p := ⟨g, _, none⟩) hg] at c0
     clear hc hx
     rcases Bool.eq_false_or_eq_true (yij x.name) with q1 | q1
     ·have HS := Lib.hid (yor j hlm hset.out (by rw [HGX.out]; exact q1) (by rw [HGX.out]; exact hnot.out))
      go_wp2_with (go_at_call 284; refine (ylm _ _ hxn).mono ?_; rintro e w1 ⟨rfl, rfl⟩)
      exact ⟨⟨j + 1, by omega, by go_num, HS, hbel⟩, by simp [intOf]; omega⟩
     ·have H := Lib.hid (show yct p = false by rw [H0.out, yrq j hlm (by rw [HGX.out]; exact q1)]; rfl)
      go_wp2_with (go_at_call 284; refine (ylm _ _ hxn).mono ?_; rintro e w1 ⟨rfl, rfl⟩)
      go_ret
      exact ⟨yab H.out.symm, hbw⟩
  ·obtain rfl : k = p.vars.length := by omega
   have hnv := hset.out
   rw [List.take_of_length_le (by simp)] at hnv
   have H1 := Lib.hid (show yct p = yfn (p.rules.map (·.name)) by rw [H0.out, hnv]; rfl)
   clear hnv hset H0
   obtain ⟨wo, rfl⟩ : ∃ wo : World, wo = wr := ⟨_, rfl⟩
   go_wp2_with fail
   go_loopw [5, 6] (fun i _ wr => ∃ k : Nat, k ≤ p.rules.length ∧ i = .int .i64 k ∧ Hid (yfn ((p.rules.map (·.name)).take k) = true) ∧ Hid (Below (w.heap.size + 1) (w.alloc (.cells #[.string p.name, .slice a0 p.vars.length cap0, .slice a1 p.rules.length cap1] 25)) wr)) (fun i _ _ => p.rules.length - (intOf i).toNat)
   case atStart => exact ⟨0, by omega, rfl, rfl, hbel⟩
   case round =>
    clear hbel hbw hbs hbox
    obtain ⟨k, hk, rfl, hset, hbel⟩ := hrel
    have hbw := yaz hbel.out
    have hbs := yci hbel.out
    have hbox := ycv hbel.out 2
    simp at hbox
    by_cases hlt : k < p.rules.length
    ·obtain ⟨x, hx⟩ : ∃ x, p.rules[k]? = some x := ⟨_, List.getElem?_eq_getElem hlt⟩
     have hxn := (HNR.out x (List.mem_of_getElem? hx)).1
     have hlm : k < (p.rules.map (·.name)).length := by simpa using hlt
     have hgx : (p.rules.map (·.name))[k] = x.name := by
      obtain ⟨_, h2⟩ := List.getElem?_eq_some_iff.1 hx
      simp [h2]
     have HX := Lib.hid hx
     have HGX := Lib.hid hgx
     clear hx hgx
     obtain ⟨wo, rfl⟩ : ∃ wo : World, wo = wr := ⟨_, rfl⟩
     go_wp2_with fail
     go_loopw [6] (fun i wr => ∃ j : Nat, j ≤ k ∧ i = .int .i64 j ∧ Hid (ymv x.name ∉ ((p.rules.map (·.name)).take j).map ymv) ∧ Hid (Below (w.heap.size + 1) (w.alloc (.cells #[.string p.name, .slice a0 p.vars.length cap0, .slice a1 p.rules.length cap1] 25)) wr)) (fun i _ => k - (intOf i).toNat)
     case atStart => exact ⟨0, by omega, rfl, (fun h => by simp at h), hbel⟩
     case round =>
      clear hbox hbel hbw hbs
      obtain ⟨j, hj, rfl, hnot, hbel⟩ := hrel
      have hbw := yaz hbel.out
      have hbs := yci hbel.out
      have hbox := ycv hbel.out 2
      simp at hbox
      obtain ⟨g, o, rfl, hg, hc⟩ := HRC.out (by omega)
      have hx := HX.out
      obtain ⟨_, _, _, _, c0, _, _⟩ := hc k x hx
      by_cases hjk : j < k
      ·obtain ⟨y, hy⟩ : ∃ y, p.rules[j]? = some y := ⟨_, List.getElem?_eq_getElem (by omega)⟩
       obtain ⟨_, _, _, _, d0, _, _⟩ := hc j y hy
       have hgy : (p.rules.map (·.name))[j]'(by simp; omega) = y.name := by
        obtain ⟨_, h2⟩ := List.getElem?_eq_some_iff.1 hy
        simp [h2]
       have HGY := Lib.hid hgy
       rw [← hbw.cell (p := ⟨g, _, none⟩) hg] at c0 d0
       clear hc hx hy hgy
       by_cases he : ymv y.name = ymv x.name
       ·have hb : (y.name.toList == x.name.toList) = true := by rw [yvp]; simpa using he
        have H := Lib.hid (show yct p = false by rw [H1.out, yqn j k hjk hlm (by rw [HGY.out, HGX.out]; exact he)])
        clear he
        go_wp2_with fail
        go_quiet (fail)
        go_wp2_with fail
        go_ret
        exact ⟨yab H.out.symm, below_drewN hbw _⟩
       ·have hb : (y.name.toList == x.name.toList) = false := by rw [yvp]; simpa using he
        have HN2 := Lib.hid (show ymv x.name ∉ ((p.rules.map (·.name)).take (j + 1)).map ymv by
         rw [List.take_succ_eq_append_getElem (show j < (p.rules.map (·.name)).length by simp; omega), List.map_append, List.mem_append, HGY.out]
         rintro (h | h)
         ·exact hnot.out h
         ·simp at h; exact he h.symm)
        clear he
        go_wp2_with fail
        go_quiet (fail)
        go_wp2_with fail
        exact ⟨⟨j + 1, by omega, by go_num, HN2, below_drewN hbel.out _⟩, by simp [intOf]; omega⟩
      ·obtain rfl : j = k := by omega
       rw [← hbw.cell (p := ⟨g, _, none⟩) hg] at c0
       clear hc hx
       rcases Bool.eq_false_or_eq_true (yij x.name) with q1 | q1
       ·have HS := Lib.hid (yor j hlm hset.out (by rw [HGX.out]; exact q1) (by rw [HGX.out]; exact hnot.out))
        go_wp2_with (go_at_call 284; refine (ylm _ _ hxn).mono ?_; rintro e w1 ⟨rfl, rfl⟩)
        exact ⟨⟨j + 1, by omega, by go_num, HS, hbel⟩, by simp [intOf]; omega⟩
       ·have H := Lib.hid (show yct p = false by rw [H1.out, yrq j hlm (by rw [HGX.out]; exact q1)])
        go_wp2_with (go_at_call 284; refine (ylm _ _ hxn).mono ?_; rintro e w1 ⟨rfl, rfl⟩)
        go_ret
        exact ⟨yab H.out.symm, hbw⟩
    ·obtain rfl : k = p.rules.length := by omega
     have H := hset.out
     rw [List.take_of_length_le (by simp)] at H
     have H2 := Lib.hid (show yct p = true by rw [H1.out, H])
     clear H
     go_wp2_with fail
     go_ret
     exact ⟨yab H2.out.symm, hbw⟩
end
end Go.Proofs.YtgpbgfpjlhoicaaGreatDoor
