/- Part 10 of the texts under ProgramFormats,ProgramReadsBack,ProgramTellsProgramsApart,ProgramGrowsByLines,ProgramIgnoresBlanks: joined, with what it needs alone. -/
import Derived.Maps.OwnOps
import Derived.Maps.OwnSet
import Derived.Maps.Views
import Derived.StringKeys
import Derived.Deep.QuietTactic
import Derived.BigQuiet
import Derived.Laws.AppendOwn
import Derived.Laws.AppendOwnNone
import Derived.Laws.OwnMore
import Derived.OwnWalk
import Derived.Deep.RegionHeld3
import Derived.Test.YtefiainojfeagaaGreatDoorPa7
import Derived.Test.YtefiainojfeagaaGreatDoorPa8
import Derived.Test.YtefiainojfeagaaGreatDoorPa9
set_option maxRecDepth 100000
namespace Go.Proofs.YtefiainojfeagaaGreatDoor
section
open Go.RowKit
def KindRet (kinds : List Int) (bound : Bool) (E : Ex) (w : World) (e : Ending) (w' : World) : Prop :=
 e = .returned (.int .i64 (ty kinds bound E)) ∧ Below w.heap.size w w'
def yld (ev kv : Value) (l : List Tm) (kinds : List Int) (E : Ex) : Prop :=
 ∀ (p : Nat) (r : List Tm) (bound : Bool) (w : World), l.drop p = E.fl ++ r → yei w ev l → yti .i64 w kv kinds →
  Calls Tryz.prog 100 #[ev, .int .i64 p, kv, .bool bound] w (KindRet kinds bound E w)
theorem rleaf_ty (kv : Value) (kinds : List Int) (op x : Int) (bound : Bool) (w : World) (hk : Hid (yti .i64 w kv kinds)) (h1 : 1 ≤ op) (h2 : op ≤ 17) (hx : op = 5 ∨ op = 12 → 0 ≤ x ∧ x < kinds.length) :
  Calls Tryz.prog 123 #[.agg #[.int .i64 op, .int .i64 x], kv, .bool bound] w fun e w' => e = .returned (.int .i64 (ty kinds bound (.lf (op, x)))) ∧ Below w.heap.size w w' :=
 (rleaf_any kv kinds op x bound w hk h1 h2 hx).mono fun e w' ⟨he, hb⟩ => ⟨by rw [he]; rfl, hb⟩
set_option maxHeartbeats 1000000 in
theorem kind_leaf (ev kv : Value) (l : List Tm) (kinds : List Int) (t : Tm) (hl : l.length ≤ 1000) (h0 : ar t.1 = 0) (ha : Hid (yhl kinds.length t = true)) : yld ev kv l kinds (.lf t) := by
 intro p r bound w hd ht hk
 obtain ⟨a0, cap0, rfl, h1, h2, h3⟩ := ht.open
 obtain ⟨hp, hpt, _⟩ := yjp hd
 obtain ⟨g, o, rfl, hg, hc⟩ := h3 (by omega)
 obtain ⟨c0, c1⟩ := hc p t hpt
 obtain ⟨h11, h17⟩ := zpi h0
 have HK := Lib.hid hk
 have hz : (ar t.1 == 0) = true := by rw [h0]; rfl
 clear hc h3 hpt hd ht hk h0
 obtain ⟨op, x⟩ := t
 simp only at *
 go_enter Tryz.func100, Tryz.ntmps100
 go_wp2_with (first | (go_at_call 84; refine (yff _ _).mono ?_; rintro e w' ⟨rfl, rfl⟩) | (go_at_call 123; refine (rleaf_ty _ kinds op x bound _ HK h11 h17 (zlw ha.out)).mono ?_; rintro e w1 ⟨rfl, hb1⟩))
 go_ret
 exact ⟨rfl, hb1⟩
set_option maxHeartbeats 2000000 in
theorem kind_un (ev kv : Value) (l : List Tm) (kinds : List Int) (t : Tm) (A : Ex) (hl : l.length ≤ 1000) (h0 : ar t.1 = 1) (ihA : yld ev kv l kinds A) : yld ev kv l kinds (.un t A) := by
 intro p r bound w hd ht hk
 obtain ⟨a0, cap0, rfl, h1, h2, h3⟩ := ht.open
 simp only [Ex.fl, List.cons_append] at hd
 obtain ⟨hp, hpt, hd1⟩ := yjp hd
 obtain ⟨g, o, rfl, hg, hc⟩ := h3 (by omega)
 obtain ⟨c0, c1⟩ := hc p t hpt
 obtain ⟨h18, h29⟩ := zsj h0
 have HT := Lib.hid ht
 have HK := Lib.hid hk
 have HD1 := Lib.hid hd1
 have HIA := Lib.hid ihA
 have HR : Hid (ty kinds bound (.un t A) = ty1 t.1 (ty kinds (bound || ymb t.1) A)) := rfl
 have hz : (ar t.1 == 0) = false := by rw [h0]; rfl
 have hz1 : (ar t.1 == 1) = true := by rw [h0]; rfl
 have hpl : p + 1 ≤ 1000 := by omega
 clear hc h3 hpt hd ht hk hd1 ihA h0
 obtain ⟨op, x⟩ := t
 simp only at *
 rcases Bool.eq_false_or_eq_true (ymb op) with hn | hn <;> cases bound
 all_goals
  simp only [hn, Bool.or_true, Bool.or_false] at HR
  go_enter Tryz.func100, Tryz.ntmps100
  go_wp2_with (first | (go_at_call 84; refine (yff _ _).mono ?_; rintro e w' ⟨rfl, rfl⟩) | (go_at_call 44; refine (yna _ _).mono ?_; rintro e w' ⟨rfl, rfl⟩))
  rw [show ((p : Int) + 1) = ((p + 1 : Nat) : Int) by omega]
  refine (HIA.out (p + 1) r _ _ HD1.out HT.out HK.out).mono ?_
  rintro e w1 ⟨rfl, hb1⟩
  generalize ty kinds _ A = ta at *
  go_wp2_with (first | (go_at_call 124; refine (rsingle_any _ _ _ (by omega) (by omega)).mono ?_; rintro e w2 ⟨rfl, rfl⟩))
  go_ret
  exact ⟨yak HR.out.symm, hb1⟩
set_option maxHeartbeats 4000000 in
theorem kind_bi (ev kv : Value) (l : List Tm) (kinds : List Int) (t : Tm) (A B : Ex) (hl : l.length ≤ 1000) (h0 : ar t.1 = 2) (hoA : A.ok) (hoB : B.ok) (ihA : yld ev kv l kinds A) (ihB : yld ev kv l kinds B) : yld ev kv l kinds (.bi t A B) := by
 intro p r bound w hd ht hk
 obtain ⟨a0, cap0, rfl, h1, h2, h3⟩ := ht.open
 have HE := Lib.hid hd
 have HO : Hid (Ex.bi t A B).ok := ⟨h0, hoA, hoB⟩
 have HOA := Lib.hid hoA
 simp only [Ex.fl, List.cons_append, List.append_assoc] at hd
 have HA := Lib.hid hd
 obtain ⟨hp, hpt, hd1⟩ := yjp hd
 obtain ⟨g, o, rfl, hg, hc⟩ := h3 (by omega)
 obtain ⟨c0, c1⟩ := hc p t hpt
 obtain ⟨h30, h42⟩ := zsk h0
 have HT := Lib.hid ht
 have HK := Lib.hid hk
 have HDA := Lib.hid hd1
 have HDB := Lib.hid (ypo hd1)
 have HIA := Lib.hid ihA
 have HIB := Lib.hid ihB
 have HR : Hid (ty kinds bound (.bi t A B) = ty2 t.1 (ty kinds bound A) (ty kinds bound B)) := rfl
 have hz : (ar t.1 == 0) = false := by rw [h0]; rfl
 have hz1 : (ar t.1 == 1) = false := by rw [h0]; rfl
 have hz2 : (ar t.1 == 2) = true := by rw [h0]; rfl
 have hge : 2 ≤ ar t.1 := by omega
 clear hc h3 hpt hd ht hk hd1 ihA ihB h0 hoA hoB
 go_enter Tryz.func100, Tryz.ntmps100
 go_wp2_with (go_at_call 84; refine (yff _ _).mono ?_; rintro e w' ⟨rfl, rfl⟩)
 rw [show ((p : Int) + 1) = ((p + 1 : Nat) : Int) by omega]
 refine (HIA.out (p + 1) _ _ _ HDA.out HT.out HK.out).mono ?_
 rintro e w1 ⟨rfl, hb1⟩
 generalize ty kinds bound A = ta at *
 go_wp2_with fail
 refine (zjf _ l p (.bi t A B) A t r _ _ hl (by exact HT.out.below hb1) HE HO HA HOA hge).mono ?_
 rintro e w2 ⟨rfl, rfl⟩
 generalize p + 1 + A.fl.length = q1 at *
 go_wp2_with fail
 refine (HIB.out q1 _ _ _ HDB.out (HT.out.below hb1) (HK.out.below hb1)).mono ?_
 rintro e w3 ⟨rfl, hb3⟩
 generalize ty kinds bound B = tb at *
 go_wp2_with (first | (go_at_call 125; refine (rdouble_any _ _ _ _ (by omega) (by omega)).mono ?_; rintro e w2 ⟨rfl, rfl⟩))
 go_ret
 exact ⟨yak HR.out.symm, yfm hb1 hb3⟩
set_option maxHeartbeats 4000000 in
theorem kind_tr (ev kv : Value) (l : List Tm) (kinds : List Int) (t : Tm) (A B C : Ex) (hl : l.length ≤ 1000) (h0 : ar t.1 = 3) (hoA : A.ok) (hoB : B.ok) (hoC : C.ok) (ihA : yld ev kv l kinds A) (ihB : yld ev kv l kinds B) (ihC : yld ev kv l kinds C) : yld ev kv l kinds (.tr t A B C) := by
 intro p r bound w hd ht hk
 obtain ⟨a0, cap0, rfl, h1, h2, h3⟩ := ht.open
 have HE := Lib.hid hd
 have HO : Hid (Ex.tr t A B C).ok := ⟨h0, hoA, hoB, hoC⟩
 have HOA := Lib.hid hoA
 have HOB := Lib.hid hoB
 simp only [Ex.fl, List.cons_append, List.append_assoc] at hd
 have HA := Lib.hid hd
 obtain ⟨hp, hpt, hd1⟩ := yjp hd
 obtain ⟨g, o, rfl, hg, hc⟩ := h3 (by omega)
 obtain ⟨c0, c1⟩ := hc p t hpt
 have HT := Lib.hid ht
 have HK := Lib.hid hk
 have HDA := Lib.hid hd1
 have HDB := Lib.hid (ypo hd1)
 have HDC := Lib.hid (ypo (ypo hd1))
 have HIA := Lib.hid ihA
 have HIB := Lib.hid ihB
 have HIC := Lib.hid ihC
 have HR : Hid (ty kinds bound (.tr t A B C) = ty3 (ty kinds bound A) (ty kinds bound B) (ty kinds bound C)) := rfl
 have hz : (ar t.1 == 0) = false := by rw [h0]; rfl
 have hz1 : (ar t.1 == 1) = false := by rw [h0]; rfl
 have hz2 : (ar t.1 == 2) = false := by rw [h0]; rfl
 have hge : 2 ≤ ar t.1 := by omega
 have hge3 : 3 ≤ ar t.1 := by omega
 clear hc h3 hpt hd ht hk hd1 ihA ihB h0 hoA hoB hoC ihC
 go_enter Tryz.func100, Tryz.ntmps100
 go_wp2_with (go_at_call 84; refine (yff _ _).mono ?_; rintro e w' ⟨rfl, rfl⟩)
 rw [show ((p : Int) + 1) = ((p + 1 : Nat) : Int) by omega]
 refine (HIA.out (p + 1) _ _ _ HDA.out HT.out HK.out).mono ?_
 rintro e w1 ⟨rfl, hb1⟩
 generalize ty kinds bound A = ta at *
 go_wp2_with fail
 refine (zjf _ l p (.tr t A B C) A t r _ _ hl (by exact HT.out.below hb1) HE HO HA HOA hge).mono ?_
 rintro e w2 ⟨rfl, rfl⟩
 go_wp2_with fail
 refine (HIB.out (p + 1 + A.fl.length) _ _ _ HDB.out (HT.out.below hb1) (HK.out.below hb1)).mono ?_
 rintro e w3 ⟨rfl, hb3⟩
 have hb13 := yfm hb1 hb3
 generalize ty kinds bound B = tb at *
 go_wp2_with fail
 refine (roperand2 _ l p (.tr t A B C) A B t r _ _ hl (by exact HT.out.below hb13) HE HO HA HOA HOB hge3).mono ?_
 rintro e w4 ⟨rfl, rfl⟩
 generalize p + 1 + A.fl.length + B.fl.length = q2 at *
 go_wp2_with fail
 refine (HIC.out q2 _ _ _ HDC.out (HT.out.below hb13) (HK.out.below hb13)).mono ?_
 rintro e w5 ⟨rfl, hb5⟩
 generalize ty kinds bound C = tc at *
 by_cases q : ta = 2
 ·have q' : (ta != 2) = false := by simp [q]
  have Q := Lib.hid q
  clear q
  go_wp2_with fail
  all_goals go_ret
  all_goals refine ⟨yak ?_, yfm hb13 hb5⟩
  all_goals (rw [HR.out]; simp [ty3, Q.out]; first | done | (simp at *; omega))
 ·have q' : (ta != 2) = true := by simp [q]
  go_wp2_with fail
  go_ret
  refine ⟨yak ?_, yfm hb13 hb5⟩
  rw [HR.out]; simp [ty3, q]
theorem kind_any (ev kv : Value) (l : List Tm) (kinds : List Int) (hl : l.length ≤ 1000) (E : Ex) : E.ok → (∀ t ∈ E.fl, yhl kinds.length t = true) → yld ev kv l kinds E := by
 induction E with
 | lf t => intro h ha; exact kind_leaf ev kv l kinds t hl h (ha t (by simp [Ex.fl]))
 | un t a iha => intro h ha; exact kind_un ev kv l kinds t a hl h.1 (iha h.2 fun t ht => ha t (by simp [Ex.fl, ht]))
 | bi t a b iha ihb => intro h ha; exact kind_bi ev kv l kinds t a b hl h.1 h.2.1 h.2.2 (iha h.2.1 fun t ht => ha t (by simp [Ex.fl, ht])) (ihb h.2.2 fun t ht => ha t (by simp [Ex.fl, ht]))
 | tr t a b c iha ihb ihc => intro h ha; exact kind_tr ev kv l kinds t a b c hl h.1 h.2.1 h.2.2.1 h.2.2.2 (iha h.2.1 fun t ht => ha t (by simp [Ex.fl, ht])) (ihb h.2.2.1 fun t ht => ha t (by simp [Ex.fl, ht])) (ihc h.2.2.2 fun t ht => ha t (by simp [Ex.fl, ht]))
end
section
open Go.RowKit
theorem zve (ev kv : Value) (l : List Tm) (kinds : List Int) (bound : Bool) (E : Ex) (w : World) (hl : l.length ≤ 1000) (ho : Hid E.ok) (ha : Hid (∀ t ∈ l, yhl kinds.length t = true)) (hf : Hid (E.fl = l)) (ht : yei w ev l) (hk : yti .i64 w kv kinds) :
  Calls Tryz.prog 117 #[.agg #[ev, kv], .int .i64 0, .bool bound] w fun e w' => e = .returned (.tuple #[.int .i64 (ty kinds bound E), .int .i64 l.length]) ∧ Below w.heap.size w w' :=
 (read_any ev kv l kinds hl E ho.out (by rw [hf.out]; exact ha.out) 0 [] bound w (by simp [hf.out]) ht hk).mono fun e w' ⟨he, hb⟩ => ⟨by rw [he, Nat.zero_add, hf.out], hb⟩
theorem kind0 (ev kv : Value) (l : List Tm) (kinds : List Int) (bound : Bool) (E : Ex) (w : World) (hl : l.length ≤ 1000) (ho : Hid E.ok) (ha : Hid (∀ t ∈ l, yhl kinds.length t = true)) (hf : Hid (E.fl = l)) (ht : yei w ev l) (hk : yti .i64 w kv kinds) :
  Calls Tryz.prog 100 #[ev, .int .i64 0, kv, .bool bound] w fun e w' => e = .returned (.int .i64 (ty kinds bound E)) ∧ Below w.heap.size w w' :=
 (kind_any ev kv l kinds hl E ho.out (by rw [hf.out]; exact ha.out) 0 [] bound w (by simp [hf.out]) ht hk)
theorem kindsB_bad {kinds : List Int} (k : Nat) (hk : k < kinds.length) (h : yst kinds[k] = false) : ymi kinds = false := by
 unfold ymi
 rw [List.all_eq_false]
 exact ⟨kinds[k], List.getElem_mem hk, by unfold yst at h; simp [h]⟩
theorem kindsB_step {kinds : List Int} (k : Nat) (hk : k < kinds.length) (h : ymi (kinds.take k) = true) (hw : yst kinds[k] = true) : ymi (kinds.take (k + 1)) = true := by
 rw [List.take_succ_eq_append_getElem hk]
 unfold ymi at *
 rw [List.all_append, h]
 unfold yst at hw
 simpa using hw
def zts (l : List Tm) (kinds : List Int) (bound : Bool) (w : World) (e : Ending) (w' : World) : Prop :=
 e = .returned (.tuple #[.int .i64 (ofF l kinds bound).1, .int .i64 (ofF l kinds bound).2]) ∧ Below w.heap.size w w'
theorem zee {l : List Tm} {kinds : List Int} {bound : Bool} {w w' : World} {a b : Int} (h : ofF l kinds bound = (a, b)) (hb : Below w.heap.size w w') : zts l kinds bound w (.returned (.tuple #[.int .i64 a, .int .i64 b])) w' := by
 unfold zts; rw [h]; exact ⟨rfl, hb⟩
set_option maxHeartbeats 4000000 in
theorem of_any (ev kv : Value) (l : List Tm) (kinds : List Int) (bound : Bool) (w : World) (hl : l.length ≤ 1000) (hv : Hid (yei w ev l)) (hk : Hid (yti .i64 w kv kinds)) :
  Calls Tryz.prog 96 #[ev, kv, .bool bound] w (zts l kinds bound w) := by
 obtain ⟨a0, cap0, rfl, i1, i2, i3, i4⟩ := hk.out.open
 have HC := Lib.hid i4
 obtain ⟨a1, cap1, rfl, _, _, j3⟩ := hv.out.open
 clear i3 i4 j3
 by_cases h6 : 6 < kinds.length
 ·have H := Lib.hid (ofF_many l kinds bound h6)
  go_enter Tryz.func96, Tryz.ntmps96
  go_wp2_with fail
  go_ret2
  exact zee H.out (Below.refl _ _)
 have b6 : decide (6 < kinds.length) = false := by simp; omega
 have b6' : decide (6 < (kinds.length : Int)) = false := by simp; omega
 cases hval : yco l kinds.length with
 | false =>
  have H := Lib.hid (ofF_invalid l kinds bound hval)
  go_enter Tryz.func96, Tryz.ntmps96
  go_wp2_with fail
  go_loop [9, 18] (fun _ i => ∃ k : Nat, k ≤ kinds.length ∧ i = .int .i64 k) (fun _ i => kinds.length - (intOf i).toNat)
  case atStart => exact ⟨0, by omega, rfl⟩
  case round =>
   obtain ⟨k, hkl, rfl⟩ := hrel
   by_cases hlt : k < kinds.length
   ·obtain ⟨g, o, rfl, hg, hc⟩ := HC.out (by omega)
    have c0 := hc k _ (List.getElem?_eq_getElem hlt)
    clear hc
    rcases Bool.eq_false_or_eq_true (yst kinds[k]) with hw | hw
    ·go_wp2_with (go_at_call 94; refine (yeh _ _).mono ?_; rintro e w1 ⟨rfl, rfl⟩)
     exact ⟨⟨k + 1, by omega, by go_num⟩, by simp [intOf]; omega⟩
    ·go_wp2_with (go_at_call 94; refine (yeh _ _).mono ?_; rintro e w1 ⟨rfl, rfl⟩)
     go_ret2
     exact zee H.out (Below.refl _ _)
   ·go_wp2_with (go_at_call 74; refine (ykg _ l _ _ hl hv).mono ?_; rintro e w1 ⟨rfl, hb1⟩)
    go_ret2
    exact zee H.out hb1
 | true =>
  obtain ⟨E, hp, ho, hf, hlen, harg, _, _⟩ := zcr hval
  have HO := Lib.hid ho
  have HF := Lib.hid hf
  have HA := Lib.hid (List.all_eq_true.1 harg)
  have HP := Lib.hid hp
  have HV := Lib.hid hval
  clear ho hf harg hp
  go_enter Tryz.func96, Tryz.ntmps96
  go_wp2_with fail
  go_loop [9, 18] (fun _ i => ∃ k : Nat, k ≤ kinds.length ∧ i = .int .i64 k ∧ Hid (ymi (kinds.take k) = true)) (fun _ i => kinds.length - (intOf i).toNat)
  case atStart => exact ⟨0, by omega, rfl, rfl⟩
  case round =>
   obtain ⟨k, hkl, rfl, hall⟩ := hrel
   by_cases hlt : k < kinds.length
   ·obtain ⟨g, o, rfl, hg, hc⟩ := HC.out (by omega)
    have c0 := hc k _ (List.getElem?_eq_getElem hlt)
    clear hc
    rcases Bool.eq_false_or_eq_true (yst kinds[k]) with hw | hw
    ·have HN := Lib.hid (kindsB_step k hlt hall.out hw)
     go_wp2_with (go_at_call 94; refine (yeh _ _).mono ?_; rintro e w1 ⟨rfl, rfl⟩)
     exact ⟨⟨k + 1, by omega, by go_num, HN⟩, by simp [intOf]; omega⟩
    ·have HN := Lib.hid (ofF_kinds l kinds bound (kindsB_bad k hlt hw))
     go_wp2_with (go_at_call 94; refine (yeh _ _).mono ?_; rintro e w1 ⟨rfl, rfl⟩)
     go_ret2
     exact zee HN.out (Below.refl _ _)
   ·have hkk := hall.out
    rw [List.take_of_length_le (by omega)] at hkk
    have HN := Lib.hid (zsy l kinds bound E h6 hkk HV.out HP.out)
    clear hkk
    by_cases hz : ty kinds bound E = 0
    ·have hz' : (ty kinds bound E == 0) = true := by simp [hz]
     have HZ := Lib.hid hz
     clear hz
     go_wp2_with (go_at_call 74; refine (ykg _ l _ _ hl hv).mono ?_; rintro e w1 ⟨rfl, hb1⟩)
     refine (zve _ _ l kinds bound E _ hl HO HA HF (by exact hv.out.below (hb1.alloc (by have := hb1.size; omega) _)) (by exact hk.out.below (hb1.alloc (by have := hb1.size; omega) _))).mono ?_
     rintro e w2 ⟨rfl, hb2⟩
     have hs1 := hb1.size
     go_wp2_with fail
     go_ret2
     exact zee (by rw [HN.out, if_pos HZ.out]) ((hb1.alloc hs1 _).trans (hb2.mono (by simp; omega)))
    ·have hz' : (ty kinds bound E == 0) = false := by simp [hz]
     go_wp2_with (go_at_call 74; refine (ykg _ l _ _ hl hv).mono ?_; rintro e w1 ⟨rfl, hb1⟩)
     refine (zve _ _ l kinds bound E _ hl HO HA HF (by exact hv.out.below (hb1.alloc (by have := hb1.size; omega) _)) (by exact hk.out.below (hb1.alloc (by have := hb1.size; omega) _))).mono ?_
     rintro e w2 ⟨rfl, hb2⟩
     have hs1 := hb1.size
     go_wp2_with fail
     go_ret2
     exact zee (by rw [HN.out, if_neg hz]) ((hb1.alloc hs1 _).trans (hb2.mono (by simp; omega)))
end
section
open Go.RowKit
theorem zsc (ev kv : Value) (l : List Tm) (kinds : List Int) (bound : Bool) (a b : Int) (w : World) (hl : l.length ≤ 1000) (hv : yei w ev l) (hk : yti .i64 w kv kinds) (h : ofF l kinds bound = (a, b)) :
  Calls Tryz.prog 96 #[ev, kv, .bool bound] w fun e w' => e = .returned (.tuple #[.int .i64 a, .int .i64 b]) ∧ Below w.heap.size w w' :=
 (of_any ev kv l kinds bound w hl hv hk).mono fun e w' ⟨he, hb⟩ => ⟨by rw [he, h], hb⟩
theorem yug (v : Value) (l : List Tm) (w : World) (hv : Hid (yei w v l)) : Calls Tryz.prog 17 #[v] w fun e w' => e = .returned (.bool (decide (l.length ≤ 250))) ∧ w = w' := by
 obtain ⟨a0, cap0, rfl, h1, h2, h3⟩ := hv.out.open
 clear h3
 go_enter Tryz.func17, Tryz.ntmps17
 go_wp2
 go_ret
 exact ⟨yae (by simp; omega), rfl⟩
end
set_option linter.unusedVariables false
section
open Go.RowKit
def ycw (n lo hi : Int) : Bool := decide (lo ≤ n) && decide (n ≤ hi)
theorem yfz (n lo hi : Int) (w : World) : Calls Tryz.prog 95 #[.int .i64 n, .int .i64 lo, .int .i64 hi] w fun e w' => e = .returned (.bool (ycw n lo hi)) ∧ w = w' := by
 go_enter Tryz.func95, Tryz.ntmps95
 go_wp2
 all_goals go_ret
 all_goals exact ⟨yae (by rw [Bool.eq_iff_iff]; simp [ycw]; try omega), rfl⟩
theorem yha (n lo hi : Int) (w : World) : Calls Tryz.prog 65 #[.int .i64 n, .int .i64 lo, .int .i64 hi] w fun e w' => e = .returned (.bool (ycw n lo hi)) ∧ w = w' := by
 go_enter Tryz.func65, Tryz.ntmps65
 go_wp2
 all_goals go_ret
 all_goals exact ⟨yae (by rw [Bool.eq_iff_iff]; simp [ycw]; try omega), rfl⟩
def ysx (x : VarD) : Bool :=
 yst x.kind && (if (x.kind != 1) = true then (x.lo == 0) && ((x.hi == 0) && ((x.perNode == 0) && (x.perID == 0))) else
  ycw x.lo 0 4096 && (ycw x.perNode 0 255 && (ycw x.perID 0 255 && (if ((x.perNode == 0) && (x.perID == 0)) = true then ycw x.hi 0 4096 else ((x.perNode == 0) || (x.perID == 0)) && ycw x.hi (-4096) 4096))))
theorem zmu (k : Int) (h : (k != 1) = false) : yst k = true := by
 simp at h; subst h; rfl
set_option maxHeartbeats 4000000 in
theorem zbm (x : VarD) (w : World) : Calls Tryz.prog 56 #[.agg #[.string x.name, .int .i64 x.kind, .int .i64 x.lo, .int .i64 x.hi, .int .i64 x.perNode, .int .i64 x.perID]] w fun e w' => e = .returned (.bool (ysx x)) ∧ Below w.heap.size w w' := by
 obtain ⟨name, kind, lo, hi, pn, pi⟩ := x
 rcases Bool.eq_false_or_eq_true (kind != 1) with q1 | q1
 ·rcases Bool.eq_false_or_eq_true (yst kind) with q0 | q0
  ·rcases Bool.eq_false_or_eq_true (lo == 0) with q2 | q2 <;> rcases Bool.eq_false_or_eq_true (hi == 0) with q3 | q3 <;> rcases Bool.eq_false_or_eq_true (pn == 0) with q4 | q4
   all_goals
    go_enter Tryz.func56, Tryz.ntmps56
    go_wp2_with (first | (go_at_call 94; refine (yeh _ _).mono ?_; rintro e w1 ⟨rfl, rfl⟩) | (go_at_call 95; refine (yfz _ _ _ _).mono ?_; rintro e w1 ⟨rfl, rfl⟩))
    go_ret
    exact ⟨yae (by simp [ysx, *]), (Below.refl _ _).alloc (Nat.le_refl _) _⟩
  ·
   go_enter Tryz.func56, Tryz.ntmps56
   go_wp2_with (first | (go_at_call 94; refine (yeh _ _).mono ?_; rintro e w1 ⟨rfl, rfl⟩) | (go_at_call 95; refine (yfz _ _ _ _).mono ?_; rintro e w1 ⟨rfl, rfl⟩))
   go_ret
   exact ⟨yae (by simp [ysx, *]), (Below.refl _ _).alloc (Nat.le_refl _) _⟩
 ·have q0 := zmu kind q1
  rcases Bool.eq_false_or_eq_true (ycw lo 0 4096) with q2 | q2
  ·rcases Bool.eq_false_or_eq_true (ycw pn 0 255) with q3 | q3
   ·rcases Bool.eq_false_or_eq_true (ycw pi 0 255) with q4 | q4
    ·rcases Bool.eq_false_or_eq_true (pn == 0) with q5 | q5 <;> rcases Bool.eq_false_or_eq_true (pi == 0) with q6 | q6
     all_goals have q7 : (pn != 0) = !(pn == 0) := rfl
     all_goals have q8 : (pi != 0) = !(pi == 0) := rfl
     all_goals simp only [q5, q6, Bool.not_true, Bool.not_false] at q7 q8
     all_goals
      go_enter Tryz.func56, Tryz.ntmps56
      go_wp2_with (first | (go_at_call 94; refine (yeh _ _).mono ?_; rintro e w1 ⟨rfl, rfl⟩) | (go_at_call 95; refine (yfz _ _ _ _).mono ?_; rintro e w1 ⟨rfl, rfl⟩))
      go_ret
      exact ⟨yae (by simp [ysx, *]), (Below.refl _ _).alloc (Nat.le_refl _) _⟩
    ·
     go_enter Tryz.func56, Tryz.ntmps56
     go_wp2_with (first | (go_at_call 94; refine (yeh _ _).mono ?_; rintro e w1 ⟨rfl, rfl⟩) | (go_at_call 95; refine (yfz _ _ _ _).mono ?_; rintro e w1 ⟨rfl, rfl⟩))
     go_ret
     exact ⟨yae (by simp [ysx, *]), (Below.refl _ _).alloc (Nat.le_refl _) _⟩
   ·
    go_enter Tryz.func56, Tryz.ntmps56
    go_wp2_with (first | (go_at_call 94; refine (yeh _ _).mono ?_; rintro e w1 ⟨rfl, rfl⟩) | (go_at_call 95; refine (yfz _ _ _ _).mono ?_; rintro e w1 ⟨rfl, rfl⟩))
    go_ret
    exact ⟨yae (by simp [ysx, *]), (Below.refl _ _).alloc (Nat.le_refl _) _⟩
  ·
   go_enter Tryz.func56, Tryz.ntmps56
   go_wp2_with (first | (go_at_call 94; refine (yeh _ _).mono ?_; rintro e w1 ⟨rfl, rfl⟩) | (go_at_call 95; refine (yfz _ _ _ _).mono ?_; rintro e w1 ⟨rfl, rfl⟩))
   go_ret
   exact ⟨yae (by simp [ysx, *]), (Below.refl _ _).alloc (Nat.le_refl _) _⟩
set_option maxHeartbeats 4000000 in
theorem yyb (x : VarD) (w : World) : Calls Tryz.prog 67 #[.agg #[.string x.name, .int .i64 x.kind, .int .i64 x.lo, .int .i64 x.hi, .int .i64 x.perNode, .int .i64 x.perID]] w fun e w' => e = .returned (.bool (ysx x)) ∧ Below w.heap.size w w' := by
 obtain ⟨name, kind, lo, hi, pn, pi⟩ := x
 rcases Bool.eq_false_or_eq_true (kind != 1) with q1 | q1
 ·rcases Bool.eq_false_or_eq_true (yst kind) with q0 | q0
  ·rcases Bool.eq_false_or_eq_true (lo == 0) with q2 | q2 <;> rcases Bool.eq_false_or_eq_true (hi == 0) with q3 | q3 <;> rcases Bool.eq_false_or_eq_true (pn == 0) with q4 | q4
   all_goals
    go_enter Tryz.func67, Tryz.ntmps67
    go_wp2_with (first | (go_at_call 98; refine (ynr _ _).mono ?_; rintro e w1 ⟨rfl, rfl⟩) | (go_at_call 65; refine (yha _ _ _ _).mono ?_; rintro e w1 ⟨rfl, rfl⟩))
    go_ret
    exact ⟨yae (by simp [ysx, *]), (Below.refl _ _).alloc (Nat.le_refl _) _⟩
  ·
   go_enter Tryz.func67, Tryz.ntmps67
   go_wp2_with (first | (go_at_call 98; refine (ynr _ _).mono ?_; rintro e w1 ⟨rfl, rfl⟩) | (go_at_call 65; refine (yha _ _ _ _).mono ?_; rintro e w1 ⟨rfl, rfl⟩))
   go_ret
   exact ⟨yae (by simp [ysx, *]), (Below.refl _ _).alloc (Nat.le_refl _) _⟩
 ·have q0 := zmu kind q1
  rcases Bool.eq_false_or_eq_true (ycw lo 0 4096) with q2 | q2
  ·rcases Bool.eq_false_or_eq_true (ycw pn 0 255) with q3 | q3
   ·rcases Bool.eq_false_or_eq_true (ycw pi 0 255) with q4 | q4
    ·rcases Bool.eq_false_or_eq_true (pn == 0) with q5 | q5 <;> rcases Bool.eq_false_or_eq_true (pi == 0) with q6 | q6
     all_goals have q7 : (pn != 0) = !(pn == 0) := rfl
     all_goals have q8 : (pi != 0) = !(pi == 0) := rfl
     all_goals simp only [q5, q6, Bool.not_true, Bool.not_false] at q7 q8
     all_goals
      go_enter Tryz.func67, Tryz.ntmps67
      go_wp2_with (first | (go_at_call 98; refine (ynr _ _).mono ?_; rintro e w1 ⟨rfl, rfl⟩) | (go_at_call 65; refine (yha _ _ _ _).mono ?_; rintro e w1 ⟨rfl, rfl⟩))
      go_ret
      exact ⟨yae (by simp [ysx, *]), (Below.refl _ _).alloc (Nat.le_refl _) _⟩
    ·
     go_enter Tryz.func67, Tryz.ntmps67
     go_wp2_with (first | (go_at_call 98; refine (ynr _ _).mono ?_; rintro e w1 ⟨rfl, rfl⟩) | (go_at_call 65; refine (yha _ _ _ _).mono ?_; rintro e w1 ⟨rfl, rfl⟩))
     go_ret
     exact ⟨yae (by simp [ysx, *]), (Below.refl _ _).alloc (Nat.le_refl _) _⟩
   ·
    go_enter Tryz.func67, Tryz.ntmps67
    go_wp2_with (first | (go_at_call 98; refine (ynr _ _).mono ?_; rintro e w1 ⟨rfl, rfl⟩) | (go_at_call 65; refine (yha _ _ _ _).mono ?_; rintro e w1 ⟨rfl, rfl⟩))
    go_ret
    exact ⟨yae (by simp [ysx, *]), (Below.refl _ _).alloc (Nat.le_refl _) _⟩
  ·
   go_enter Tryz.func67, Tryz.ntmps67
   go_wp2_with (first | (go_at_call 98; refine (ynr _ _).mono ?_; rintro e w1 ⟨rfl, rfl⟩) | (go_at_call 65; refine (yha _ _ _ _).mono ?_; rintro e w1 ⟨rfl, rfl⟩))
   go_ret
   exact ⟨yae (by simp [ysx, *]), (Below.refl _ _).alloc (Nat.le_refl _) _⟩
end
section
open Go.RowKit
def yom (s : ByteArray) : List UInt8 := s.data.toList
theorem yzb (a b : ByteArray) : (a.toList == b.toList) = decide (yom a = yom b) := by
 rw [ByteArray.toList_eq, ByteArray.toList_eq, Bool.eq_iff_iff]; simp [yom]
def yfk (l : List ByteArray) : Bool := l.all yie && decide ((l.map yom).Nodup)
theorem yui {l : List ByteArray} (k : Nat) (hk : k < l.length) (h : yie l[k] = false) : yfk l = false := by
 unfold yfk
 have : l.all yie = false := by rw [List.all_eq_false]; exact ⟨l[k], List.getElem_mem hk, by simp [h]⟩
 rw [this]; rfl
theorem ysw {l : List ByteArray} (j k : Nat) (hjk : j < k) (hk : k < l.length) (h : yom (l[j]'(by omega)) = yom l[k]) : yfk l = false := by
 unfold yfk
 have : ¬ (l.map yom).Nodup := by
  intro hn
  have hn' := List.pairwise_iff_getElem.1 hn j k (by simp; omega) (by simpa using hk) hjk
  apply hn'
  simp [h]
 simp [this]
theorem yqx {l : List ByteArray} (k : Nat) (hk : k < l.length) (h : yfk (l.take k) = true) (h1 : yie l[k] = true) (h2 : yom l[k] ∉ (l.take k).map yom) : yfk (l.take (k + 1)) = true := by
 unfold yfk at *
 rw [Bool.and_eq_true, decide_eq_true_eq] at *
 rw [List.take_succ_eq_append_getElem hk, List.all_append, h.1, List.map_append]
 refine ⟨by simpa using h1, ?_⟩
 rw [List.nodup_append]
 refine ⟨h.2, by simp, ?_⟩
 intro a ha b hb
 simp only [List.map_singleton, List.mem_singleton] at hb
 subst hb
 intro hab
 exact h2 (hab ▸ ha)
theorem mem_names {l : List ByteArray} {k : Nat} {x : List UInt8} (h : x ∈ (l.take k).map yom) : ∃ j, ∃ h : j < l.length, j < k ∧ yom l[j] = x := by
 rw [List.mem_map] at h
 obtain ⟨s, hs, rfl⟩ := h
 obtain ⟨j, hj⟩ := List.getElem?_of_mem hs
 have hjk : j < k := by
  have := (List.getElem?_eq_some_iff.1 hj).1
  rw [List.length_take] at this; omega
 rw [List.getElem?_take, if_pos hjk] at hj
 obtain ⟨h1, h2⟩ := List.getElem?_eq_some_iff.1 hj
 exact ⟨j, h1, hjk, by rw [h2]⟩
theorem zbi {l : List ByteArray} {k : Nat} (hk : k < l.length) (h : yom l[k] ∈ (l.take k).map yom) : yfk l = false := by
 obtain ⟨j, hj, hjk, he⟩ := mem_names h
 exact ysw j k hjk hk he
def ydq (p : ProgD) : Bool := yie p.name && (yfk (p.vars.map (·.name)) && yfk (p.rules.map (·.name)))
def yci (r : RuleD) (n : Int) : Bool :=
 decide (1 ≤ r.sets.length) && (decide (r.sets.length ≤ 6) && (yco r.guard n && (r.sets.all (fun s => ycw s.var 0 (n - 1) && yco s.val n) && decide ((r.sets.map (·.var)).Nodup))))
def ygw (r : RuleD) (kinds : List Int) : Bool := ((ofF r.guard kinds false).1 == 2) && r.sets.all (fun s => (ofF s.val kinds false).1 == kinds.getD s.var.toNat 0)
def ycg (p : ProgD) : List Int := p.vars.map (·.kind)
def ycn (p : ProgD) : Int :=
 if p.vars.length = 0 ∨ 6 < p.vars.length ∨ 12 < p.rules.length then 3 else if ydq p = false then 5 else if p.vars.all ysx = false then 2 else
 if p.rules.all (yci · p.vars.length) = false then 7 else if p.rules.all (ygw · (ycg p)) = false then 6 else 0
theorem yih {α : Type} {f : α → Bool} {l : List α} (k : Nat) (hk : k < l.length) (h : f l[k] = false) : l.all f = false := by
 rw [List.all_eq_false]; exact ⟨l[k], List.getElem_mem hk, by simp [h]⟩
theorem yii {α : Type} {f : α → Bool} {l : List α} (k : Nat) (hk : k < l.length) (h : (l.take k).all f = true) (hw : f l[k] = true) : (l.take (k + 1)).all f = true := by
 rw [List.take_succ_eq_append_getElem hk, List.all_append, h]; simp [hw]
theorem ylg {α : Type} {f : α → Bool} {l : List α} (h : (l.take l.length).all f = true) : l.all f = true := by rw [List.take_length] at h; exact h
end
section
def yrl : Bs := [112, 114, 111, 103, 114, 97, 109]
def yve : Bs := [118, 97, 114]
def ykk : Bs := [114, 117, 108, 101]
def zcz : Bs := [98, 111, 111, 108]
def zgi : Bs := [112, 111, 114, 116]
def yvi : Bs := [105, 100, 115]
def ytb (c : Int) (w : Bs) : Bs := if c = 1 then w else dec c.toNat ++ (32 :: 42 :: 32 :: w)
def ywj (c : Int) (w : Bs) : List PW := if c = 1 then [pwN w] else [pwV c.toNat, pwS [42], pwN w]
def ysz (h : Int) : Bs := if 0 < h then 32 :: 43 :: 32 :: dec h.toNat else if h < 0 then 32 :: 45 :: 32 :: dec (-h).toNat else []
def zqp (h : Int) : List PW := if 0 < h then [pwS [43], pwV h.toNat] else if h < 0 then [pwS [45], pwV (-h).toNat] else []
def yfs (x : VarD) : Bs := if 0 < x.perNode then ytb x.perNode [110] ++ ysz x.hi else if 0 < x.perID then ytb x.perID yvi ++ ysz x.hi else dec x.hi.toNat
def yrs (x : VarD) : List PW := if 0 < x.perNode then ywj x.perNode [110] ++ zqp x.hi else if 0 < x.perID then ywj x.perID yvi ++ zqp x.hi else [pwV x.hi.toNat]
def ypw (x : VarD) : Bs := if x.kind = 2 then zcz else if x.kind = 3 then zgi else dec x.lo.toNat ++ (32 :: 46 :: 46 :: 32 :: yfs x)
def zkx (x : VarD) : List PW := if x.kind = 2 then [pwN zcz] else if x.kind = 3 then [pwN zgi] else pwV x.lo.toNat :: pwS [46, 46] :: yrs x
def zkg (x : VarD) : Bs := yve ++ (32 :: (bl x.name ++ (32 :: 58 :: 32 :: (ypw x ++ [59, 10]))))
def zrl (x : VarD) : List PW := pwN yve :: pwN (bl x.name) :: pwS [58] :: (zkx x ++ [pwS [59]])
def yap (p : ProgD) : List Bs := p.vars.map fun x => bl x.name
def yps (names : List Bs) (e : List Tm) : List PW := match yfx e with
 | some E => ykp false names E
 | none => []
def zdb (names : List Bs) (s : SetD) : Bs := yfn names s.var ++ (32 :: 58 :: 61 :: 32 :: yem false names s.val)
def zjr (names : List Bs) (s : SetD) : List PW := pwN (yfn names s.var) :: pwS [58, 61] :: yps names s.val
def yiw (names : List Bs) : List SetD → Bs
 | [] => []
 | [s] => zdb names s
 | s :: l => zdb names s ++ (44 :: 32 :: yiw names l)
def ypf (names : List Bs) : List SetD → List PW
 | [] => []
 | [s] => zjr names s
 | s :: l => zjr names s ++ (pwS [44] :: ypf names l)
def ynw (names : List Bs) (r : RuleD) : Bs := ykk ++ (32 :: (bl r.name ++ (58 :: 32 :: (yem false names r.guard ++ (32 :: 45 :: 62 :: 32 :: (yiw names r.sets ++ [59, 10]))))))
def yop (names : List Bs) (r : RuleD) : List PW := pwN ykk :: pwN (bl r.name) :: pwS [58] :: (yps names r.guard ++ (pwS [45, 62] :: (ypf names r.sets ++ [pwS [59]])))
def yss (p : ProgD) : Bs := yrl ++ (32 :: (bl p.name ++ [59, 10]))
def zqc (p : ProgD) : List PW := [pwN yrl, pwN (bl p.name), pwS [59]]
def yer (p : ProgD) : Bs := yss p ++ (p.vars.flatMap zkg ++ p.rules.flatMap (ynw (yap p)))
def yup (p : ProgD) : List PW := zqc p ++ (p.vars.flatMap zrl ++ p.rules.flatMap (yop (yap p)))
def ydm (p : ProgD) : Bs × Int := if ycn p = 0 then (match yfr (ba (yer p)) with
 | .ok _ => (yer p, 0)
 | .error _ => ([], 3)) else ([], 8)
theorem scans_nl {r : Bs} {ws : List PW} (h : Scans r ws) : Scans (10 :: r) ws := by
 have e : (10 :: r : Bs).drop (ycr false (10 :: r)) = r.drop (ycr false r) := by
  rw [ycr, if_pos (by simp), Nat.add_comm, List.drop_succ_cons]
 cases h with
 | nil h => exact .nil (e.trans h)
 | cons h hy ht hr => exact .cons (e.trans h) hy ht hr
theorem zop : ydo yrl ∧ ydo yve ∧ ydo ykk ∧ ydo zcz ∧ ydo zgi ∧ ydo yvi ∧ ydo [110] := by
 refine ⟨?_, ?_, ?_, ?_, ?_, ?_, ?_⟩ <;> exact ⟨by decide, by decide, _, _, rfl, rfl⟩
theorem zse {a : UInt8} {r : Bs} {ws : List PW} (h : yoa a = true) (hb : yph (yhh a) r) (h1 : ycp a = false) (h2 : yba a = false) (h3 : yix a = false) (hr : Scans r ws) : Scans (32 :: a :: r) (pwS [a] :: ws) := ydc (ydj h hb h1 h2 h3 hr)
theorem zre {r : Bs} {ws : List PW} (hr : Scans r ws) : Scans (59 :: 10 :: r) (pwS [59] :: ws) := ydj rfl (yav rfl) rfl rfl rfl (scans_nl hr)
theorem off_scans {h : Int} (hh : -4096 ≤ h ∧ h ≤ 4096) {r : Bs} {ws : List PW} (hr : Scans (59 :: r) ws) : Scans (ysz h ++ 59 :: r) (zqp h ++ ws) ∧ yph ydu (ysz h ++ 59 :: r) := by
 unfold ysz zqp
 split
 ·refine ⟨?_, yav rfl⟩
  have := zse (a := 43) rfl (yav rfl) rfl rfl rfl (ydc (yny (n := h.toNat) (by omega) (yav rfl) hr))
  simpa using this
 ·split
  ·refine ⟨?_, yav rfl⟩
   have := zse (a := 45) rfl (yav rfl) rfl rfl rfl (ydc (yny (n := (-h).toNat) (by omega) (yav rfl) hr))
   simpa using this
  ·exact ⟨hr, yav rfl⟩
theorem zef {c : Int} (hc : 0 ≤ c ∧ c ≤ 255) {w : Bs} (hw : ydo w) {r : Bs} {ws : List PW} (hb : yph ydu r) (hr : Scans r ws) : Scans (ytb c w ++ r) (ywj c w ++ ws) := by
 unfold ytb ywj
 split
 ·exact ycz hw hb hr
 ·have h1 := yny (n := c.toNat) (by omega) (yav (c := 32) (r := 42 :: 32 :: (w ++ r)) rfl) (zse (a := 42) rfl (yav rfl) rfl rfl rfl (ydc (ycz hw hb hr)))
  simpa using h1
structure NumOk (x : VarD) : Prop where
 kind : x.kind = 1 ∨ x.kind = 2 ∨ x.kind = 3
 none : x.kind ≠ 1 → x.lo = 0 ∧ x.hi = 0 ∧ x.perNode = 0 ∧ x.perID = 0
 lo : 0 ≤ x.lo ∧ x.lo ≤ 4096
 node : 0 ≤ x.perNode ∧ x.perNode ≤ 255
 id : 0 ≤ x.perID ∧ x.perID ≤ 255
 hi : -4096 ≤ x.hi ∧ x.hi ≤ 4096
 one : x.perNode = 0 ∨ x.perID = 0
 pos : x.perNode = 0 → x.perID = 0 → 0 ≤ x.hi
theorem bound_scans {x : VarD} (h : NumOk x) {r : Bs} {ws : List PW} (hr : Scans (59 :: r) ws) : Scans (yfs x ++ 59 :: r) (yrs x ++ ws) := by
 obtain ⟨_, _, _, _, _, k1, k2⟩ := zop
 unfold yfs yrs
 obtain ⟨o1, o2⟩ := off_scans h.hi hr
 split
 ·have := zef h.node k2 o2 o1
  simpa using this
 ·split
  ·have := zef h.id k1 o2 o1
   simpa using this
  ·exact yny (by have := h.hi; omega) (yav rfl) hr
theorem kind_scans {x : VarD} (h : NumOk x) {r : Bs} {ws : List PW} (hr : Scans (59 :: r) ws) : Scans (ypw x ++ 59 :: r) (zkx x ++ ws) := by
 obtain ⟨_, _, _, k1, k2, _, _⟩ := zop
 unfold ypw zkx
 split
 ·exact ycz k1 (yav rfl) hr
 ·split
  ·exact ycz k2 (yav rfl) hr
  ·have h1 := bound_scans h hr
   have h2 : Scans ([46, 46] ++ (32 :: (yfs x ++ 59 :: r))) (pwS [46, 46] :: (yrs x ++ ws)) := yoq rfl rfl rfl rfl (ydc h1)
   have h3 := yny (n := x.lo.toNat) (by have := h.lo; omega) (yav (c := 32) (r := [46, 46] ++ (32 :: (yfs x ++ 59 :: r))) rfl) (ydc h2)
   simpa using h3
theorem var_scans {x : VarD} (h : NumOk x) (hn : ydo (bl x.name)) {r : Bs} {ws : List PW} (hr : Scans r ws) : Scans (zkg x ++ r) (zrl x ++ ws) := by
 obtain ⟨_, k1, _⟩ := zop
 have h1 := kind_scans h (zre hr)
 have h2 := zse (a := 58) rfl (yav rfl) rfl rfl rfl (ydc h1)
 have h3 := ycz k1 (yav (c := 32) rfl) (ydc (ycz hn (yav rfl) h2))
 unfold zkg zrl
 simpa using h3
theorem zez : ∀ {l : List VarD}, (∀ x ∈ l, NumOk x) → (∀ x ∈ l, ydo (bl x.name)) → ∀ {r : Bs} {ws : List PW}, Scans r ws → Scans (l.flatMap zkg ++ r) (l.flatMap zrl ++ ws)
 | [], _, _, r, ws, hr => hr
 | x :: l, h, hn, r, ws, hr => by
  have h1 := var_scans (h x (by simp)) (hn x (by simp)) (zez (l := l) (fun y hy => h y (by simp [hy])) (fun y hy => hn y (by simp [hy])) hr)
  simpa using h1
section
variable {names : List Bs}
theorem zds (hg : ∀ w ∈ names, ydo w) {e : List Tm} {v : Int} (hv : yco e v = true) (hnv : v = names.length) {r : Bs} {ws : List PW} (hf : FT r) (hr : Scans r ws) : Scans (yem false names e ++ r) (yps names e ++ ws) := by
 subst hnv
 obtain ⟨E, h1, h2, rfl, h3, h4⟩ := yla hv
 have hw := (ymy (names := names) false E h2 h4).downs (zay _) (Nat.zero_le _)
 rw [yem, yps, h1]
 exact wr_scans hg hw r ws hf hr
structure SetOkP (names : List Bs) (s : SetD) : Prop where
 var : 0 ≤ s.var ∧ s.var < names.length
 val : yco s.val names.length = true
theorem zjs (hg : ∀ w ∈ names, ydo w) {s : SetD} (h : SetOkP names s) {r : Bs} {ws : List PW} (hf : FT r) (hr : Scans r ws) : Scans (zdb names s ++ r) (zjr names s ++ ws) := by
 have h1 := zds hg h.val rfl hf hr
 have hw : ydo (yfn names s.var) := by
  have hv := h.var
  obtain ⟨w, hw⟩ : ∃ w, names[s.var.toNat]? = some w := ⟨_, List.getElem?_eq_getElem (by omega)⟩
  rw [yfn, hw]
  exact hg w (List.mem_of_getElem? hw)
 have h2 : Scans ([58, 61] ++ (32 :: (yem false names s.val ++ r))) (pwS [58, 61] :: (yps names s.val ++ ws)) := yoq rfl rfl rfl rfl (ydc h1)
 have h3 := ycz hw (yav (c := 32) rfl) (ydc h2)
 unfold zdb zjr
 simpa using h3
theorem zeq (hg : ∀ w ∈ names, ydo w) : ∀ {l : List SetD}, l ≠ [] → (∀ s ∈ l, SetOkP names s) → ∀ {r : Bs} {ws : List PW}, FT r → Scans r ws → Scans (yiw names l ++ r) (ypf names l ++ ws)
 | [], h, _, _, _, _, _ => absurd rfl h
 | [s], _, h, r, ws, hf, hr => zjs hg (h s (by simp)) hf hr
 | s :: s2 :: l, _, h, r, ws, hf, hr => by
  have h1 := zeq hg (l := s2 :: l) (by simp) (fun y hy => h y (by simp only [List.mem_cons] at hy ⊢; exact .inr hy)) hf hr
  have h2 : Scans (44 :: 32 :: (yiw names (s2 :: l) ++ r)) (pwS [44] :: (ypf names (s2 :: l) ++ ws)) := ydj rfl (yav rfl) rfl rfl rfl (ydc h1)
  have h3 := zjs hg (h s (by simp)) ft_comma h2
  simpa [yiw, ypf] using h3
structure RuleOkP (names : List Bs) (r : RuleD) : Prop where
 name : ydo (bl r.name)
 guard : yco r.guard names.length = true
 some : r.sets ≠ []
 sets : ∀ s ∈ r.sets, SetOkP names s
theorem rule_scans (hg : ∀ w ∈ names, ydo w) {u : RuleD} (h : RuleOkP names u) {r : Bs} {ws : List PW} (hr : Scans r ws) : Scans (ynw names u ++ r) (yop names u ++ ws) := by
 obtain ⟨_, _, k1, _⟩ := zop
 have h1 := zeq hg h.some h.sets ft_semi (zre hr)
 have h2 : Scans ([45, 62] ++ (32 :: (yiw names u.sets ++ 59 :: 10 :: r))) (pwS [45, 62] :: (ypf names u.sets ++ pwS [59] :: ws)) := yoq rfl rfl rfl rfl (ydc h1)
 have h3 := zds hg h.guard rfl zpz (ydc h2)
 have h4 : Scans (58 :: 32 :: (yem false names u.guard ++ (32 :: ([45, 62] ++ (32 :: (yiw names u.sets ++ 59 :: 10 :: r)))))) (pwS [58] :: (yps names u.guard ++ (pwS [45, 62] :: (ypf names u.sets ++ pwS [59] :: ws)))) := ydj rfl (yav rfl) rfl rfl rfl (ydc h3)
 have h5 := ycz k1 (yav (c := 32) rfl) (ydc (ycz h.name (yav rfl) h4))
 unfold ynw yop
 simpa using h5
theorem zce (hg : ∀ w ∈ names, ydo w) : ∀ {l : List RuleD}, (∀ u ∈ l, RuleOkP names u) → ∀ {r : Bs} {ws : List PW}, Scans r ws → Scans (l.flatMap (ynw names) ++ r) (l.flatMap (yop names) ++ ws)
 | [], _, r, ws, hr => hr
 | x :: l, h, r, ws, hr => by
  have h1 := rule_scans hg (h x (by simp)) (zce hg (l := l) (fun y hy => h y (by simp [hy])) hr)
  simpa using h1
end
structure ProgOkP (p : ProgD) : Prop where
 name : nmW (bl p.name) = true
 some : p.vars ≠ []
 few : p.vars.length ≤ 6
 vars : ∀ x ∈ p.vars, NumOk x
 vnames : ∀ x ∈ p.vars, nmW (bl x.name) = true
 vnod : (yap p).Nodup
 rfew : p.rules.length ≤ 12
 rules : ∀ u ∈ p.rules, RuleOkP (yap p) u
 rnames : ∀ u ∈ p.rules, nmW (bl u.name) = true
 rnod : (p.rules.map fun u => bl u.name).Nodup
theorem yrb {p : ProgD} (h : ProgOkP p) : Scans (yer p) (yup p) := by
 obtain ⟨k1, _⟩ := zop
 have hg : ∀ w ∈ yap p, ydo w := by
  intro w hw
  obtain ⟨x, hx, rfl⟩ := List.mem_map.1 hw
  exact (ydw (h.vnames x hx)).1
 have h1 := zce hg h.rules (.nil (l := []) rfl)
 have h2 := zez h.vars (fun x hx => (ydw (h.vnames x hx)).1) h1
 have h3 := ycz k1 (yav (c := 32) rfl) (ydc (ycz (ydw h.name).1 (yav rfl) (zre h2)))
 unfold yer yup yss zqc
 simpa using h3
end
section
theorem num_ok {x : VarD} (h : ysx x = true) : NumOk x := by
 unfold ysx at h
 simp only [Bool.and_eq_true] at h
 obtain ⟨h1, h2⟩ := h
 have hk : x.kind = 1 ∨ x.kind = 2 ∨ x.kind = 3 := by simpa [yst] using h1
 by_cases hk1 : x.kind = 1
 ·have e : (x.kind != 1) = false := by simp [hk1]
  rw [e] at h2
  simp only [Bool.false_eq_true, if_false, Bool.and_eq_true, ycw, decide_eq_true_eq] at h2
  obtain ⟨a1, a2, a3, a4⟩ := h2
  by_cases hz : x.perNode = 0 ∧ x.perID = 0
  ·rw [if_pos (by simp [hz.1, hz.2])] at a4
   simp only [Bool.and_eq_true, decide_eq_true_eq] at a4
   exact ⟨hk, fun h => absurd hk1 h, a1, a2, a3, by omega, .inl hz.1, fun _ _ => a4.1⟩
  ·rw [if_neg (by simp; omega)] at a4
   simp only [Bool.and_eq_true, Bool.or_eq_true, beq_iff_eq, decide_eq_true_eq] at a4
   exact ⟨hk, fun h => absurd hk1 h, a1, a2, a3, a4.2, a4.1, fun h1 h2 => absurd ⟨h1, h2⟩ hz⟩
 ·have e : (x.kind != 1) = true := by simp [hk1]
  rw [e] at h2
  simp only [if_true, Bool.and_eq_true, beq_iff_eq] at h2
  obtain ⟨a1, a2, a3, a4⟩ := h2
  exact ⟨hk, fun _ => ⟨a1, a2, a3, a4⟩, by omega, by omega, by omega, by omega, .inl a3, fun _ _ => by omega⟩
theorem zqo (s : ByteArray) : nmW (bl s) = yie s := by rw [nmW, ymx]
theorem zna {l : List ByteArray} (h : yfk l = true) : (∀ s ∈ l, nmW (bl s) = true) ∧ (l.map bl).Nodup := by
 simp only [yfk, Bool.and_eq_true, List.all_eq_true, decide_eq_true_eq] at h
 exact ⟨fun s hs => by rw [zqo]; exact h.1 s hs, h.2⟩
theorem rule_ok {r : RuleD} {names : List Bs} (hn : nmW (bl r.name) = true) (h : yci r names.length = true) : RuleOkP names r := by
 simp only [yci, Bool.and_eq_true, decide_eq_true_eq, List.all_eq_true, ycw] at h
 obtain ⟨h1, h2, h3, h4, h5⟩ := h
 exact ⟨(ydw hn).1, h3, fun e => by rw [e] at h1; simp at h1, fun s hs => ⟨by have := (h4 s hs).1; omega, (h4 s hs).2⟩⟩
theorem ykj {p : ProgD} (h : ycn p = 0) : ProgOkP p := by
 unfold ycn at h
 split at h
 ·cases h
 rename_i c1
 split at h
 ·cases h
 rename_i c2
 split at h
 ·cases h
 rename_i c3
 split at h
 ·cases h
 rename_i c4
 simp only [not_or] at c1
 have c2 : ydq p = true := by simpa using c2
 have c3 : p.vars.all ysx = true := by simpa using c3
 have c4 : p.rules.all (yci · p.vars.length) = true := by simpa using c4
 simp only [ydq, Bool.and_eq_true] at c2
 obtain ⟨n1, n2, n3⟩ := c2
 obtain ⟨v1, v2⟩ := zna n2
 obtain ⟨r1, r2⟩ := zna n3
 rw [List.all_eq_true] at c3 c4
 have hl : (yap p).length = p.vars.length := by simp [yap]
 have hv : ∀ x ∈ p.vars, nmW (bl x.name) = true := fun x hx => v1 _ (List.mem_map_of_mem hx)
 have hr : ∀ u ∈ p.rules, nmW (bl u.name) = true := fun u hu => r1 _ (List.mem_map_of_mem hu)
 refine ⟨by rw [zqo]; exact n1, fun e => c1.1 (by rw [e]; rfl), by omega, fun x hx => num_ok (c3 x hx), hv, ?_, by omega, fun u hu => rule_ok (hr u hu) (by rw [hl]; exact c4 u hu), hr, ?_⟩
 ·rw [List.map_map] at v2; exact v2
 ·rw [List.map_map] at r2; exact r2
theorem zjq {l : Bs} {ws : List PW} (h : Scans l ws) : ∀ {us : List PW}, Scans l us → ws = us := by
 induction h with
 | nil h =>
  intro us hu
  cases hu with
  | nil _ => rfl
  | cons h2 hy _ _ =>
   rw [h] at h2
   exact absurd (List.append_eq_nil_iff.1 h2.symm).1 hy
 | @cons l y r k v ws h hy ht hr ih =>
  intro us hu
  cases hu with
  | nil h2 =>
   rw [h2] at h
   exact absurd (List.append_eq_nil_iff.1 h.symm).1 hy
  | @cons _ y' r' k' v' ws' h2 hy2 ht2 hr2 =>
   have e : y ++ r = y' ++ r' := h.symm.trans h2
   rw [e, ht2] at ht
   simp only [Except.ok.injEq, Prod.mk.injEq] at ht
   obtain ⟨rfl, e2, rfl⟩ := ht
   obtain ⟨rfl, rfl⟩ := List.append_inj e e2.symm
   rw [ih hr2]
theorem ypt {p : ProgD} (h : ycn p = 0) {ts : List Tok} (hs : yfr (ba (yer p)) = .ok ts) : ts.map (pwT (ba (yer p))) = yup p := by
 have h1 := scanF_words hs
 rw [yde] at h1
 exact zjq h1 (yrb (ykj h))
end
section
theorem yvy {p : ProgD} (h : ProgOkP p) : yho nmW (yap p) = true := by
 have h1 : (yap p).all nmW = true := by
  rw [List.all_eq_true]
  intro w hw
  obtain ⟨x, hx, rfl⟩ := List.mem_map.1 hw
  exact h.vnames x hx
 have h2 : (yap p).length ≤ 6 := by have := h.few; simpa [yap] using this
 simp only [yho, h1, decide_eq_true h.vnod, decide_eq_true h2, Bool.and_self]
def yyh (r : List PW) : Prop := ybd r = [45, 62] ∨ ybd r = [44] ∨ ybd r = [59]
theorem yyh.fol {r : List PW} (h : yyh r) : Fol 0 r := by
 rcases h with h | h | h <;> (unfold Fol; rw [h]; exact ⟨fun _ => by decide, by decide, .inl (by decide)⟩)
theorem zao {names : List Bs} (hg : yho nmW names = true) {e : List Tm} (hv : yco e names.length = true) {r : List PW} (hr : yyh r) : ymv nmW names .choice (yps names e ++ r) (.ok e r) := by
 obtain ⟨E, h1, h2, rfl, h3, h4⟩ := yla hv
 have hw := (ymy (names := names) false E h2 h4).downs (zay _) (Nat.zero_le _)
 rw [yps, h1]
 exact (wr_ans (zbk.ok hg) hw).1 rfl r hr.fol
theorem zml {names : List Bs} (hg : yho nmW names = true) {e e' : List Tm} (hv : yco e names.length = true) (hv' : yco e' names.length = true) {r r' : List PW} (hr : yyh r) (hr' : yyh r') (h : yps names e ++ r = yps names e' ++ r') : e = e' ∧ r = r' := by
 have h1 := zao hg hv hr
 have h2 := zao hg hv' hr'
 rw [h] at h1
 have := ymv.det h1 h2
 simp only [Res.ok.injEq] at this
 exact this
theorem nameW_inj {names : List Bs} (hn : names.Nodup) {i j : Int} (hi : 0 ≤ i ∧ i < names.length) (hj : 0 ≤ j ∧ j < names.length) (h : yfn names i = yfn names j) : i = j := by
 have e1 : names[i.toNat]? = some (names[i.toNat]'(by omega)) := List.getElem?_eq_getElem _
 have e2 : names[j.toNat]? = some (names[j.toNat]'(by omega)) := List.getElem?_eq_getElem _
 rw [yfn, yfn, e1, e2] at h
 have h3 : names[i.toNat]'(by omega) = names[j.toNat]'(by omega) := h
 have := (List.getElem_inj hn).1 h3
 omega
theorem znt {a b : SetD} (h1 : a.var = b.var) (h2 : a.val = b.val) : a = b := by cases a; cases b; simp only at h1 h2; rw [h1, h2]
theorem yhv {r : List PW} : yyh (pwS [59] :: r) := .inr (.inr rfl)
theorem ygj {r : List PW} : yyh (pwS [44] :: r) := .inr (.inl rfl)
theorem znu {names : List Bs} (hg : yho nmW names = true) : ∀ {l l' : List SetD}, l ≠ [] → l' ≠ [] → (∀ s ∈ l, SetOkP names s) → (∀ s ∈ l', SetOkP names s) → ∀ {r r' : List PW}, ypf names l ++ pwS [59] :: r = ypf names l' ++ pwS [59] :: r' → l = l' ∧ r = r'
 | [], _, h, _, _, _, _, _, _ => absurd rfl h
 | _ :: _, [], _, h, _, _, _, _, _ => absurd rfl h
 | s :: l, s' :: l', _, _, hs, hs', r, r', h => by
  have hd := (yjg hg).2.2
  have o := hs s (by simp)
  have o' := hs' s' (by simp)
  have key : ∀ {q q' : List PW}, yyh q → yyh q' → zjr names s ++ q = zjr names s' ++ q' → s = s' ∧ q = q' := by
   intro q q' a a' e
   simp only [zjr, List.cons_append, List.cons.injEq, pwN, PW.mk.injEq, and_true, true_and] at e
   obtain ⟨e1, e2⟩ := e
   obtain ⟨e3, e4⟩ := zml hg o.val o'.val a a' e2
   exact ⟨znt (nameW_inj hd o.var o'.var e1) e3, e4⟩
  cases l with
  | nil =>
   cases l' with
   | nil =>
    obtain ⟨e1, e2⟩ := key yhv yhv h
    simp only [List.cons.injEq, true_and] at e2
    exact ⟨by rw [e1], e2⟩
   | cons b l' =>
    have h' : zjr names s ++ pwS [59] :: r = zjr names s' ++ (pwS [44] :: (ypf names (b :: l') ++ pwS [59] :: r')) := by simpa [ypf] using h
    obtain ⟨_, e2⟩ := key yhv ygj h'
    simp [pwS] at e2
  | cons a l =>
   cases l' with
   | nil =>
    have h' : zjr names s ++ (pwS [44] :: (ypf names (a :: l) ++ pwS [59] :: r)) = zjr names s' ++ pwS [59] :: r' := by simpa [ypf] using h
    obtain ⟨_, e2⟩ := key ygj yhv h'
    simp [pwS] at e2
   | cons b l' =>
    have h' : zjr names s ++ (pwS [44] :: (ypf names (a :: l) ++ pwS [59] :: r)) = zjr names s' ++ (pwS [44] :: (ypf names (b :: l') ++ pwS [59] :: r')) := by simpa [ypf] using h
    obtain ⟨e1, e2⟩ := key ygj ygj h'
    simp only [List.cons.injEq, true_and] at e2
    obtain ⟨e3, e4⟩ := znu hg (l := a :: l) (l' := b :: l') (by simp) (by simp) (fun y hy => hs y (by simp only [List.mem_cons] at hy ⊢; exact .inr hy)) (fun y hy => hs' y (by simp only [List.mem_cons] at hy ⊢; exact .inr hy)) e2
    exact ⟨by rw [e1, e3], e4⟩
theorem zji {a b : RuleD} (h1 : a.name = b.name) (h2 : a.guard = b.guard) (h3 : a.sets = b.sets) : a = b := by cases a; cases b; simp only at h1 h2 h3; rw [h1, h2, h3]
theorem zlx {a b : ByteArray} (h : bl a = bl b) : a = b := by rw [← ymx a, h, ymx]
theorem rule_inj {names : List Bs} (hg : yho nmW names = true) {a b : RuleD} (ha : RuleOkP names a) (hb : RuleOkP names b) {r r' : List PW} (h : yop names a ++ r = yop names b ++ r') : a = b ∧ r = r' := by
 simp only [yop, List.cons_append, List.append_assoc, List.cons.injEq, pwN, PW.mk.injEq, and_true, true_and, List.nil_append] at h
 obtain ⟨e1, e2⟩ := h
 obtain ⟨e3, e4⟩ := zml hg ha.guard hb.guard (.inl rfl) (.inl rfl) e2
 simp only [List.cons.injEq, true_and] at e4
 obtain ⟨e5, e6⟩ := znu hg ha.some hb.some ha.sets hb.sets e4
 exact ⟨zji (zlx e1) e3 e5, e6⟩
theorem zjl {names : List Bs} (hg : yho nmW names = true) : ∀ {l l' : List RuleD}, (∀ u ∈ l, RuleOkP names u) → (∀ u ∈ l', RuleOkP names u) → l.flatMap (yop names) = l'.flatMap (yop names) → l = l'
 | [], [], _, _, _ => rfl
 | [], b :: l', _, _, h => by simp [yop] at h
 | a :: l, [], _, _, h => by simp [yop] at h
 | a :: l, b :: l', h1, h2, h => by
  simp only [List.flatMap_cons] at h
  obtain ⟨e1, e2⟩ := rule_inj hg (h1 a (by simp)) (h2 b (by simp)) h
  rw [e1, zjl hg (fun u hu => h1 u (by simp [hu])) (fun u hu => h2 u (by simp [hu])) e2]
theorem zqw {a b : Nat} (h : pwV a = pwV b) : a = b := by simp only [pwV, PW.mk.injEq] at h; exact h.2.2
theorem zqq {a b : Int} {r r' : List PW} (h : zqp a ++ pwS [59] :: r = zqp b ++ pwS [59] :: r') : a = b ∧ r = r' := by
 unfold zqp at h
 repeat' split at h
 all_goals simp [pwS, pwV] at h
 all_goals first | (obtain ⟨⟨_, h1⟩, h2⟩ := h; exact ⟨by omega, h2⟩) | exact ⟨by omega, h⟩
theorem yzd {a b : Int} {w w' : Bs} (ha : 0 < a) (hb : 0 < b) {q q' : List PW} (h : ywj a w ++ q = ywj b w' ++ q') : a = b ∧ w = w' ∧ q = q' := by
 unfold ywj at h
 repeat' split at h
 all_goals simp [pwS, pwV, pwN] at h
 ·exact ⟨by omega, h.1, h.2⟩
 ·obtain ⟨⟨_, h1⟩, h2, h3⟩ := h
  exact ⟨by omega, h2, h3⟩
theorem yuo {a : Int} {w : Bs} {q : List PW} {n : Nat} {r : List PW} : ywj a w ++ q ≠ pwV n :: pwS [59] :: r := by
 unfold ywj
 split <;> simp [pwS, pwV, pwN]
theorem yzo {a b : VarD} (h1 : a.name = b.name) (h2 : a.kind = b.kind) (h3 : a.lo = b.lo) (h4 : a.hi = b.hi) (h5 : a.perNode = b.perNode) (h6 : a.perID = b.perID) : a = b := by cases a; cases b; simp only at *; rw [h1, h2, h3, h4, h5, h6]
theorem bound_inj {x y : VarD} (hx : NumOk x) (hy : NumOk y) {r r' : List PW} (h : yrs x ++ pwS [59] :: r = yrs y ++ pwS [59] :: r') : x.hi = y.hi ∧ x.perNode = y.perNode ∧ x.perID = y.perID ∧ r = r' := by
 have nx := hx.node; have ix := hx.id; have ny := hy.node; have iy := hy.id
 have ox := hx.one; have oy := hy.one
 unfold yrs at h
 have ne : ([110] : Bs) ≠ yvi := by decide
 split at h
 ·split at h
  ·rw [List.append_assoc, List.append_assoc] at h
   obtain ⟨e1, _, e2⟩ := yzd (by omega) (by omega) h
   obtain ⟨e3, e4⟩ := zqq e2
   exact ⟨e3, e1, by omega, e4⟩
  ·split at h
   ·rw [List.append_assoc, List.append_assoc] at h
    exact absurd (yzd (by omega) (by omega) h).2.1 ne
   ·rw [List.append_assoc] at h
    exact absurd h yuo
 ·split at h
  ·split at h
   ·rw [List.append_assoc, List.append_assoc] at h
    exact absurd (yzd (by omega) (by omega) h).2.1.symm ne
   ·split at h
    ·rw [List.append_assoc, List.append_assoc] at h
     obtain ⟨e1, _, e2⟩ := yzd (by omega) (by omega) h
     obtain ⟨e3, e4⟩ := zqq e2
     exact ⟨e3, by omega, e1, e4⟩
    ·rw [List.append_assoc] at h
     exact absurd h yuo
  ·split at h
   ·rw [List.append_assoc] at h
    exact absurd h.symm yuo
   ·split at h
    ·rw [List.append_assoc] at h
     exact absurd h.symm yuo
    ·simp only [List.cons_append, List.nil_append, List.cons.injEq, true_and] at h
     have := zqw h.1
     have := hx.pos (by omega) (by omega)
     have := hy.pos (by omega) (by omega)
     exact ⟨by omega, by omega, by omega, h.2⟩
theorem var_inj {x y : VarD} (hx : NumOk x) (hy : NumOk y) {r r' : List PW} (h : zrl x ++ r = zrl y ++ r') : x = y ∧ r = r' := by
 simp only [zrl, List.cons_append, List.append_assoc, List.cons.injEq, pwN, PW.mk.injEq, and_true, true_and, List.nil_append] at h
 obtain ⟨e1, e2⟩ := h
 have e1 := zlx e1
 have kx := hx.kind; have ky := hy.kind
 unfold zkx at e2
 by_cases x2 : x.kind = 2
 ·rw [if_pos x2] at e2
  by_cases y2 : y.kind = 2
  ·rw [if_pos y2] at e2
   simp only [List.cons_append, List.nil_append, List.cons.injEq, true_and] at e2
   obtain ⟨a1, a2, a3, a4⟩ := hx.none (by omega)
   obtain ⟨b1, b2, b3, b4⟩ := hy.none (by omega)
   exact ⟨yzo e1 (by omega) (by omega) (by omega) (by omega) (by omega), e2⟩
  ·rw [if_neg y2] at e2
   split at e2 <;> simp [pwN, pwV, zcz, zgi] at e2
 ·rw [if_neg x2] at e2
  by_cases x3 : x.kind = 3
  ·rw [if_pos x3] at e2
   by_cases y2 : y.kind = 2
   ·rw [if_pos y2] at e2
    simp [pwN, zcz, zgi] at e2
   ·rw [if_neg y2] at e2
    by_cases y3 : y.kind = 3
    ·rw [if_pos y3] at e2
     simp only [List.cons_append, List.nil_append, List.cons.injEq, true_and] at e2
     obtain ⟨a1, a2, a3, a4⟩ := hx.none (by omega)
     obtain ⟨b1, b2, b3, b4⟩ := hy.none (by omega)
     exact ⟨yzo e1 (by omega) (by omega) (by omega) (by omega) (by omega), e2⟩
    ·rw [if_neg y3] at e2
     simp [pwN, pwV] at e2
  ·rw [if_neg x3] at e2
   by_cases y2 : y.kind = 2
   ·rw [if_pos y2] at e2
    simp [pwN, pwV] at e2
   ·rw [if_neg y2] at e2
    by_cases y3 : y.kind = 3
    ·rw [if_pos y3] at e2
     simp [pwN, pwV] at e2
    ·rw [if_neg y3] at e2
     simp only [List.cons_append, List.cons.injEq, true_and] at e2
     have hl := zqw e2.1
     have := hx.lo; have := hy.lo
     obtain ⟨f1, f2, f3, f4⟩ := bound_inj hx hy e2.2
     exact ⟨yzo e1 (by omega) (by omega) f1 f2 f3, f4⟩
theorem zoi : ∀ {l l' : List VarD}, (∀ x ∈ l, NumOk x) → (∀ x ∈ l', NumOk x) → ∀ {r r' : List PW}, ybd r ≠ yve → ybd r' ≠ yve → l.flatMap zrl ++ r = l'.flatMap zrl ++ r' → l = l' ∧ r = r'
 | [], [], _, _, r, r', _, _, h => ⟨rfl, h⟩
 | [], y :: l', _, _, r, r', hr, _, h => by
  simp only [List.flatMap_nil, List.nil_append] at h
  rw [h] at hr
  exact absurd rfl hr
 | x :: l, [], _, _, r, r', _, hr, h => by
  simp only [List.flatMap_nil, List.nil_append] at h
  rw [← h] at hr
  exact absurd rfl hr
 | x :: l, y :: l', h1, h2, r, r', hr, hr', h => by
  simp only [List.flatMap_cons, List.append_assoc] at h
  obtain ⟨e1, e2⟩ := var_inj (h1 x (by simp)) (h2 y (by simp)) h
  obtain ⟨e3, e4⟩ := zoi (fun u hu => h1 u (by simp [hu])) (fun u hu => h2 u (by simp [hu])) hr hr' e2
  exact ⟨by rw [e1, e3], e4⟩
theorem ywr {names : List Bs} (l : List RuleD) : ybd (l.flatMap (yop names)) ≠ yve := by
 cases l with
 | nil => exact (by decide : ([] : Bs) ≠ yve)
 | cons u l => exact (by decide : ykk ≠ yve)
theorem ziz {a b : ProgD} (h1 : a.name = b.name) (h2 : a.vars = b.vars) (h3 : a.rules = b.rules) : a = b := by cases a; cases b; simp only at *; rw [h1, h2, h3]
theorem prog_inj {p q : ProgD} (hp : ProgOkP p) (hq : ProgOkP q) (h : yup p = yup q) : p = q := by
 simp only [yup, zqc, List.cons_append, List.nil_append, List.cons.injEq, pwN, PW.mk.injEq, and_true, true_and] at h
 obtain ⟨e1, e2⟩ := h
 obtain ⟨e3, e4⟩ := zoi hp.vars hq.vars (ywr _) (ywr _) e2
 have en : yap p = yap q := by rw [yap, yap, e3]
 rw [← en] at e4
 exact ziz (zlx e1) e3 (zjl (yvy hp) hp.rules (by rw [en]; exact hq.rules) e4)
theorem progT_inj {p q : ProgD} (hp : ycn p = 0) (hq : ycn q = 0) (h : yer p = yer q) : p = q := by
 have h1 := yrb (ykj hp)
 rw [h] at h1
 exact prog_inj (ykj hp) (ykj hq) (zjq h1 (yrb (ykj hq)))
end
section
open Go.RowKit Go.Maps
def yow (P : Program) (k e : TypeId) (w : World) (b n : Nat) (S : List Lit) : Prop :=
 ∃ D : DataW Unit, w.ownsMap P k (plainElem P e) b n D ∧ ∀ kl, (kl ∈ S → D.atKey kl (.lit (.bool false)) = .lit (.bool true)) ∧ (kl ∉ S → D.atKey kl (.lit (.bool false)) = .lit (.bool false))
section
variable {P : Program} {k e t : TypeId} {w w' : World} {b n : Nat} {S : List Lit}
theorem ytd (P : Program) (k e : TypeId) (w : World) : yow P k e (w.alloc (.map #[] 0)) w.heap.size 0 [] :=
 ⟨.map [], World.ownsMap_made w P k _, fun kl => ⟨fun h => by simp at h, fun _ => by simp [DataW.atKey]⟩⟩
theorem yow.lt (h : yow P k e w b n S) : b < w.heap.size := by obtain ⟨D, h, _⟩ := h; exact h.lt
theorem yow.below (h : yow P k e w b n S) (hb : Below w.heap.size w w') : yow P k e w' b n S := by
 have hl := h.lt
 obtain ⟨D, ⟨es, clock, h1, h2⟩, h3⟩ := h
 exact ⟨D, ⟨es, clock, (hb.block b hl).trans h1, h2⟩, h3⟩
theorem plainElem_bool_inv (he : P.underlying e = some .bool) {v : Value} {z : DataW Unit × List MemPlace} (h : plainElem P e v = some z) : ∃ x, v = .bool x ∧ z = (.lit (.bool x), []) := by
 unfold plainElem at h
 rw [he] at h
 cases v <;> simp at h
 exact ⟨_, rfl, h.symm⟩
theorem yow.look (h : yow P k e w b n S) (K : Keyed P k) (ht : P.underlying t = some (.map k e)) (he : P.underlying e = some .bool) (hz : (zeroValue e).run P w = .ok (.bool false) w) {key : Value} {kl : Lit} (hkey : keyOf P k key = some kl) (x : Bool) (hx : (kl ∈ S ∧ x = true) ∨ (kl ∉ S ∧ x = false)) :
  (Instr.lookup t (.map (some b)) key false).run P w = .ok (.bool x) w := by
 obtain ⟨D, h1, h2⟩ := h
 obtain ⟨v, ps, hrun, hv⟩ := h1.lookup K ht hz (plainElem_bool he false) hkey
 obtain ⟨y, rfl, hy⟩ := plainElem_bool_inv he hv
 rcases hx with ⟨h3, rfl⟩ | ⟨h3, rfl⟩
 ·rw [(h2 kl).1 h3] at hy
  simp only [Prod.mk.injEq, DataW.lit.injEq, Lit.bool.injEq] at hy
  obtain ⟨rfl, _⟩ := hy
  exact hrun
 ·rw [(h2 kl).2 h3] at hy
  simp only [Prod.mk.injEq, DataW.lit.injEq, Lit.bool.injEq] at hy
  obtain ⟨rfl, _⟩ := hy
  exact hrun
theorem yjn {ops : Array Oper} {rest : List Oper} {o : Oper} {a : Act} {Q : Exit → Act → World → Prop}
  (hg : o.guard = none) (m x v : Operand) (t : TypeId) (hop : o.op = Op.mapUpdate t m x v)
  (k e : TypeId) (K : Keyed P k) (ht : P.underlying t = some (.map k e)) (he : P.underlying e = some .bool) (b n : Nat) (S : List Lit)
  (hm : a.eval m = .map (some b)) (hown : yow P k e w b n S) (hn : n < maxLen) (key : Value) (kl : Lit) (hx : a.eval x = key) (hv : a.eval v = .bool true) (hkey : keyOf P k key = some kl)
  (hK : ∀ w', yow P k e w' b (n + 1) (S ++ [kl]) → w.grownBy w' (some b) → wpList P ops Q rest (a.put o.dst undef) w') :
  wpList P ops Q (o :: rest) a w := by
 obtain ⟨D, h1, h2⟩ := hown
 refine wpList_mapUpdate_own w hg m x v t hop k e K ht (plainElem P e) b n D hm h1 hn key (.bool true) kl hx hv hkey (.lit (.bool true)) [] (plainElem_bool he true) (fun w' h3 h4 => hK w' ⟨_, h3, fun kl' => ?_⟩ h4)
 by_cases hkl : kl' = kl
 ·subst hkl
  refine ⟨fun _ => atKey_put_same h1.isMap (K.key hkey) _ _, fun h => absurd (by simp) h⟩
 ·rw [atKey_put_other hkl]
  exact ⟨fun h => (h2 kl').1 (by simpa [hkl] using h), fun h => (h2 kl').2 (by simpa [hkl] using h)⟩
end
end
section
open Go.RowKit Go.Maps
theorem yji : Keyed Tryz.prog 9 := string_keyed Tryz.underlying9
theorem yrk (w : World) : (zeroValue 4).run Tryz.prog w = .ok (.bool false) w := by kernel_rfl
theorem ynq (s : ByteArray) (h : s.size ≤ 9223372036854775807) : keyOf Tryz.prog 9 (.string s) = some (.string (yom s)) := WideMaps.keyOf_string_mk Tryz.underlying9 (by unfold maxLen; omega)
theorem ydv {w wr : World} {xs : Array Value} {T : TypeId} (hb : Below (w.heap.size + 1) (w.alloc (.cells xs T)) wr) (j : Nat) : wr.cell? ⟨w.heap.size, j, none⟩ = xs[j]? := by
 rw [hb.cell (p := ⟨w.heap.size, j, none⟩) (by simp)]
 have h1 : (w.alloc (.cells xs T)).heap[w.heap.size]? = some (.cells xs T) := heap_alloc_new w _
 unfold World.cell?
 simp only [h1]
 simp
theorem ybj {w wr : World} {xs : Array Value} {T : TypeId} (hb : Below (w.heap.size + 1) (w.alloc (.cells xs T)) wr) : Below w.heap.size w wr :=
 ((Below.refl _ _).alloc (Nat.le_refl _) _).trans (hb.mono (by omega))
theorem ydh {w wr : World} {xs : Array Value} {T : TypeId} (hb : Below (w.heap.size + 1) (w.alloc (.cells xs T)) wr) : w.heap.size + 1 ≤ wr.heap.size := by
 have := hb.size; simpa using this
def zoy (l : List ByteArray) : List Lit := l.map fun s => .string (yom s)
theorem yza {l : List ByteArray} {x : List UInt8} : Lit.string x ∈ zoy l ↔ x ∈ l.map yom := by
 unfold zoy
 simp only [List.mem_map, Lit.string.injEq]
theorem zij (l : List ByteArray) (k : Nat) (hk : k < l.length) : zoy (l.take k) ++ [.string (yom l[k])] = zoy (l.take (k + 1)) := by
 unfold zoy; rw [List.take_succ_eq_append_getElem hk, List.map_append]; rfl
def zpf (l : List ByteArray) (M k : Nat) (wr : World) : Prop := yow Tryz.prog 9 4 wr M k (zoy (l.take k)) ∧ yfk (l.take k) = true
set_option maxHeartbeats 8000000 in
theorem zin (v : Value) (p : ProgD) (w : World) (hv : ygi w v p) (hin : yet p) (h6 : p.vars.length ≤ 1000) (h12 : p.rules.length ≤ 1000) :
  Calls Tryz.prog 55 #[v] w fun e w' => e = .returned (.bool (ydq p)) ∧ Below w.heap.size w w' := by
 obtain ⟨vv, rv, rfl, hvv, hrv⟩ := hv
 obtain ⟨hn0, hnv, hnr⟩ := hin
 have HNV := Lib.hid hnv
 have HNR := Lib.hid hnr
 obtain ⟨a0, cap0, rfl, i1, i2, i3⟩ := hvv.open
 obtain ⟨a1, cap1, rfl, j1, j2, j3⟩ := hrv.open
 have HVC := Lib.hid i3
 have HRC := Lib.hid j3
 have hmm := @run_makeMap Tryz.prog
 clear i3 j3 hvv hrv hnv hnr
 rcases Bool.eq_false_or_eq_true (yie p.name) with q0 | q0
 rotate_left
 ·have H := Lib.hid (show ydq p = false by unfold ydq; rw [q0]; rfl)
  go_enter Tryz.func55, Tryz.ntmps55
  go_wp2_with (go_at_call 88; refine (yks _ _ hn0).mono ?_; rintro e w1 ⟨rfl, rfl⟩)
  go_ret
  exact ⟨yae H.out.symm, (Below.refl _ _).alloc (Nat.le_refl _) _⟩
 have H0 := Lib.hid (show ydq p = (yfk (p.vars.map (·.name)) && yfk (p.rules.map (·.name))) by unfold ydq; rw [q0]; rfl)
 go_enter Tryz.func55, Tryz.ntmps55
 go_wp2_with (go_at_call 88; refine (yks _ _ hn0).mono ?_; rintro e w1 ⟨rfl, rfl⟩)
 go_loopw [5, 17] (fun _ i wr => ∃ k : Nat, k ≤ p.vars.length ∧ i = .int .i64 k ∧ Hid (zpf (p.vars.map (·.name)) (w.heap.size + 1) k wr) ∧ Hid (Below (w.heap.size + 1) (w.alloc (.cells #[.string p.name, .slice a0 p.vars.length cap0, .slice a1 p.rules.length cap1] 25)) wr)) (fun _ i _ => p.vars.length - (intOf i).toNat)
 case atStart => exact ⟨0, by omega, rfl, ⟨by rw [List.take_zero]; simpa [zoy] using ytd Tryz.prog 9 4 (w.alloc (.cells #[.string p.name, .slice a0 p.vars.length cap0, .slice a1 p.rules.length cap1] 25)), rfl⟩, (Below.refl _ _).alloc (by simp) _⟩
 case round =>
  obtain ⟨k, hk, rfl, hset, hbel⟩ := hrel
  have hbw := ybj hbel.out
  have hbs := ydh hbel.out
  by_cases hlt : k < p.vars.length
  ·obtain ⟨g, o, rfl, hg, hc⟩ := HVC.out (by omega)
   obtain ⟨x, hx⟩ : ∃ x, p.vars[k]? = some x := ⟨_, List.getElem?_eq_getElem hlt⟩
   obtain ⟨c0, c1, c2, c3, c4, c5⟩ := hc k x hx
   rw [← hbw.cell (p := ⟨g, _, none⟩) hg] at c0 c1 c2 c3 c4 c5
   have hxn := (HNV.out x (List.mem_of_getElem? hx)).1
   have hlm : k < (p.vars.map (·.name)).length := by simpa using hlt
   have hgx : (p.vars.map (·.name))[k] = x.name := by
    obtain ⟨_, h2⟩ := List.getElem?_eq_some_iff.1 hx
    simp [h2]
   clear hc
   rcases Bool.eq_false_or_eq_true (yie x.name) with q1 | q1
   rotate_left
   ·have H := Lib.hid (show ydq p = false by rw [H0.out, yui k hlm (by rw [hgx]; exact q1)]; rfl)
    clear hx hgx
    go_wp2_with (go_at_call 88; refine (yks _ _ hxn).mono ?_; rintro e w1 ⟨rfl, rfl⟩)
    go_ret
    exact ⟨yae H.out.symm, hbw.alloc (by omega) _⟩
   by_cases hmem : yom x.name ∈ ((p.vars.map (·.name)).take k).map yom
   ·have H := Lib.hid (show ydq p = false by rw [H0.out, zbi hlm (by rw [hgx]; exact hmem)]; rfl)
    have yaf : ∀ ob : Obj, (Instr.lookup 120 (.map (some (w.heap.size + 1))) (.string x.name) false).run Tryz.prog (wr.alloc ob) = .ok (.bool true) (wr.alloc ob) := fun ob =>
     (hset.out.1.below ((Below.refl _ _).alloc (Nat.le_refl _) ob)).look yji Tryz.underlying120 Tryz.underlying4 (yrk _) (ynq x.name hxn) true (.inl ⟨yza.2 hmem, rfl⟩)
    clear hx hgx hmem
    go_wp2_with (go_at_call 88; refine (yks _ _ hxn).mono ?_; rintro e w1 ⟨rfl, rfl⟩)
    go_ret
    exact ⟨yae H.out.symm, hbw.alloc (by omega) _⟩
   ·have yaf : ∀ ob : Obj, (Instr.lookup 120 (.map (some (w.heap.size + 1))) (.string x.name) false).run Tryz.prog (wr.alloc ob) = .ok (.bool false) (wr.alloc ob) := fun ob =>
     (hset.out.1.below ((Below.refl _ _).alloc (Nat.le_refl _) ob)).look yji Tryz.underlying120 Tryz.underlying4 (yrk _) (ynq x.name hxn) false (.inr ⟨fun h => hmem (yza.1 h), rfl⟩)
    have HS := Lib.hid (yqx k hlm hset.out.2 (by rw [hgx]; exact q1) (by rw [hgx]; exact hmem))
    have HL := Lib.hid (show zoy ((p.vars.map (·.name)).take k) ++ [.string (yom x.name)] = zoy ((p.vars.map (·.name)).take (k + 1)) by rw [← zij _ k hlm, hgx])
    clear hx hgx hmem
    go_wp2_with (first | (go_at_call 88; refine (yks _ _ hxn).mono ?_; rintro e w1 ⟨rfl, rfl⟩) | (at_mapUpdate; refine yjn rfl _ _ _ 120 rfl 9 4 yji Tryz.underlying120 Tryz.underlying4 (w.heap.size + 1) k _ rfl (by exact hset.out.1.below ((Below.refl _ _).alloc (Nat.le_refl _) _)) (by unfold maxLen; omega) _ (.string (yom x.name)) rfl rfl (ynq x.name hxn) ?_; intro w2 hset2 hgrow))
    refine ⟨⟨k + 1, by omega, by go_num, ⟨?_, HS.out⟩, ?_⟩, by simp [intOf]; omega⟩
    ·rw [HL.out] at hset2; exact hset2
    ·exact (hbel.out.alloc hbs _).grown hgrow (by simp; omega) (fun q hq => by cases hq; exact Nat.le_refl _)
  ·obtain rfl : k = p.vars.length := by omega
   obtain ⟨wo, rfl⟩ : ∃ wo : World, wo = wr := ⟨_, rfl⟩
   have hnv : yfk (p.vars.map (·.name)) = true := by
    have := hset.out.2
    rw [List.take_of_length_le (by simp)] at this
    exact this
   have H1 := Lib.hid (show ydq p = yfk (p.rules.map (·.name)) by rw [H0.out, hnv]; rfl)
   have hbox := ydv hbel.out 2
   clear hnv hset H0
   simp at hbox
   have hne : w.heap.size ≠ wo.heap.size := by omega
   have hlt0 : w.heap.size < wo.heap.size := by omega
   go_wp2_with fail
   have hb0 : Below (w.heap.size + 1) (w.alloc (.cells #[.string p.name, .slice a0 p.vars.length cap0, .slice a1 p.rules.length cap1] 25)) (wo.alloc (.map #[] 0)) := hbel.out.alloc hbs _
   go_loopw [8, 39] (fun _ i wr => ∃ k : Nat, k ≤ p.rules.length ∧ i = .int .i64 k ∧ Hid (zpf (p.rules.map (·.name)) wo.heap.size k wr) ∧ Hid (Below (w.heap.size + 1) (w.alloc (.cells #[.string p.name, .slice a0 p.vars.length cap0, .slice a1 p.rules.length cap1] 25)) wr)) (fun _ i _ => p.rules.length - (intOf i).toNat)
   case atStart => exact ⟨0, by omega, rfl, ⟨by rw [List.take_zero]; simpa [zoy] using ytd Tryz.prog 9 4 wo, rfl⟩, hb0⟩
   case round =>
    clear hbox hb0 hne hlt0 hbel hbw
    obtain ⟨k, hk, rfl, hset, hbel⟩ := hrel
    have hbw := ybj hbel.out
    have hbs2 := ydh hbel.out
    by_cases hlt : k < p.rules.length
    ·obtain ⟨g, o, rfl, hg, hc⟩ := HRC.out (by omega)
     obtain ⟨x, hx⟩ : ∃ x, p.rules[k]? = some x := ⟨_, List.getElem?_eq_getElem hlt⟩
     obtain ⟨gv, sv, ht, hs, c0, c1, c2⟩ := hc k x hx
     obtain ⟨ga, gcap, rfl, _, _, _⟩ := ht.open
     obtain ⟨sa, scap, rfl, _, _, _⟩ := yhg hs
     rw [← hbw.cell (p := ⟨g, _, none⟩) hg] at c0 c1 c2
     have hxn := (HNR.out x (List.mem_of_getElem? hx)).1
     have hlm : k < (p.rules.map (·.name)).length := by simpa using hlt
     have hgx : (p.rules.map (·.name))[k] = x.name := by
      obtain ⟨_, h2⟩ := List.getElem?_eq_some_iff.1 hx
      simp [h2]
     clear hc ht hs
     rcases Bool.eq_false_or_eq_true (yie x.name) with q1 | q1
     rotate_left
     ·have H := Lib.hid (show ydq p = false by rw [H1.out, yui k hlm (by rw [hgx]; exact q1)])
      clear hx hgx
      go_wp2_with (go_at_call 88; refine (yks _ _ hxn).mono ?_; rintro e w1 ⟨rfl, rfl⟩)
      go_ret
      exact ⟨yae H.out.symm, hbw.alloc (by omega) _⟩
     by_cases hmem : yom x.name ∈ ((p.rules.map (·.name)).take k).map yom
     ·have H := Lib.hid (show ydq p = false by rw [H1.out, zbi hlm (by rw [hgx]; exact hmem)])
      have yaf : ∀ ob : Obj, (Instr.lookup 120 (.map (some wo.heap.size)) (.string x.name) false).run Tryz.prog (wr.alloc ob) = .ok (.bool true) (wr.alloc ob) := fun ob =>
       (hset.out.1.below ((Below.refl _ _).alloc (Nat.le_refl _) ob)).look yji Tryz.underlying120 Tryz.underlying4 (yrk _) (ynq x.name hxn) true (.inl ⟨yza.2 hmem, rfl⟩)
      clear hx hgx hmem
      go_wp2_with (go_at_call 88; refine (yks _ _ hxn).mono ?_; rintro e w1 ⟨rfl, rfl⟩)
      go_ret
      exact ⟨yae H.out.symm, hbw.alloc (by omega) _⟩
     ·have yaf : ∀ ob : Obj, (Instr.lookup 120 (.map (some wo.heap.size)) (.string x.name) false).run Tryz.prog (wr.alloc ob) = .ok (.bool false) (wr.alloc ob) := fun ob =>
       (hset.out.1.below ((Below.refl _ _).alloc (Nat.le_refl _) ob)).look yji Tryz.underlying120 Tryz.underlying4 (yrk _) (ynq x.name hxn) false (.inr ⟨fun h => hmem (yza.1 h), rfl⟩)
      have HS := Lib.hid (yqx k hlm hset.out.2 (by rw [hgx]; exact q1) (by rw [hgx]; exact hmem))
      have HL := Lib.hid (show zoy ((p.rules.map (·.name)).take k) ++ [.string (yom x.name)] = zoy ((p.rules.map (·.name)).take (k + 1)) by rw [← zij _ k hlm, hgx])
      clear hx hgx hmem
      go_wp2_with (first | (go_at_call 88; refine (yks _ _ hxn).mono ?_; rintro e w1 ⟨rfl, rfl⟩) | (at_mapUpdate; refine yjn rfl _ _ _ 120 rfl 9 4 yji Tryz.underlying120 Tryz.underlying4 wo.heap.size k _ rfl (by exact hset.out.1.below ((Below.refl _ _).alloc (Nat.le_refl _) _)) (by unfold maxLen; omega) _ (.string (yom x.name)) rfl rfl (ynq x.name hxn) ?_; intro w2 hset2 hgrow))
      refine ⟨⟨k + 1, by omega, by go_num, ⟨?_, HS.out⟩, ?_⟩, by simp [intOf]; omega⟩
      ·rw [HL.out] at hset2; exact hset2
      ·exact (hbel.out.alloc hbs2 _).grown hgrow (by simp; omega) (fun q hq => by cases hq; exact hbs)
    ·obtain rfl : k = p.rules.length := by omega
     have H := hset.out.2
     rw [List.take_of_length_le (by simp)] at H
     have H2 := Lib.hid (show ydq p = true by rw [H1.out, H])
     clear H
     go_wp2_with fail
     go_ret
     exact ⟨yae H2.out.symm, hbw⟩
end
section
open Go.RowKit Go.Maps
set_option maxHeartbeats 8000000 in
theorem zei (v : Value) (p : ProgD) (w : World) (hv : ygi w v p) (hin : yet p) (h6 : p.vars.length ≤ 1000) (h12 : p.rules.length ≤ 1000) :
  Calls Tryz.prog 66 #[v] w fun e w' => e = .returned (.bool (ydq p)) ∧ Below w.heap.size w w' := by
 obtain ⟨vv, rv, rfl, hvv, hrv⟩ := hv
 obtain ⟨hn0, hnv, hnr⟩ := hin
 have HNV := Lib.hid hnv
 have HNR := Lib.hid hnr
 obtain ⟨a0, cap0, rfl, i1, i2, i3⟩ := hvv.open
 obtain ⟨a1, cap1, rfl, j1, j2, j3⟩ := hrv.open
 have HVC := Lib.hid i3
 have HRC := Lib.hid j3
 clear i3 j3 hvv hrv hnv hnr
 rcases Bool.eq_false_or_eq_true (yie p.name) with q0 | q0
 rotate_left
 ·have H := Lib.hid (show ydq p = false by unfold ydq; rw [q0]; rfl)
  go_enter Tryz.func66, Tryz.ntmps66
  go_wp2_with (go_at_call 97; refine (ynv _ _ hn0).mono ?_; rintro e w1 ⟨rfl, rfl⟩)
  go_ret
  exact ⟨yae H.out.symm, (Below.refl _ _).alloc (Nat.le_refl _) _⟩
 have H0 := Lib.hid (show ydq p = (yfk (p.vars.map (·.name)) && yfk (p.rules.map (·.name))) by unfold ydq; rw [q0]; rfl)
 go_enter Tryz.func66, Tryz.ntmps66
 go_wp2_with (go_at_call 97; refine (ynv _ _ hn0).mono ?_; rintro e w1 ⟨rfl, rfl⟩)
 go_loopw [3, 4] (fun i _ wr => ∃ k : Nat, k ≤ p.vars.length ∧ i = .int .i64 k ∧ Hid (yfk ((p.vars.map (·.name)).take k) = true) ∧ Hid (Below (w.heap.size + 1) (w.alloc (.cells #[.string p.name, .slice a0 p.vars.length cap0, .slice a1 p.rules.length cap1] 25)) wr)) (fun i _ _ => p.vars.length - (intOf i).toNat)
 case atStart => exact ⟨0, by omega, rfl, rfl, Below.refl _ _⟩
 case round =>
  obtain ⟨k, hk, rfl, hset, hbel⟩ := hrel
  have hbw := ybj hbel.out
  have hbs := ydh hbel.out
  have hbox := ydv hbel.out 1
  simp at hbox
  by_cases hlt : k < p.vars.length
  ·obtain ⟨x, hx⟩ : ∃ x, p.vars[k]? = some x := ⟨_, List.getElem?_eq_getElem hlt⟩
   have hxn := (HNV.out x (List.mem_of_getElem? hx)).1
   have hlm : k < (p.vars.map (·.name)).length := by simpa using hlt
   have hgx : (p.vars.map (·.name))[k] = x.name := by
    obtain ⟨_, h2⟩ := List.getElem?_eq_some_iff.1 hx
    simp [h2]
   have HX := Lib.hid hx
   have HGX := Lib.hid hgx
   clear hx hgx
   obtain ⟨wo, rfl⟩ : ∃ wo : World, wo = wr := ⟨_, rfl⟩
   go_wp2_with fail
   go_loopw [4] (fun i wr => ∃ j : Nat, j ≤ k ∧ i = .int .i64 j ∧ Hid (yom x.name ∉ ((p.vars.map (·.name)).take j).map yom) ∧ Hid (Below (w.heap.size + 1) (w.alloc (.cells #[.string p.name, .slice a0 p.vars.length cap0, .slice a1 p.rules.length cap1] 25)) wr)) (fun i _ => k - (intOf i).toNat)
   case atStart => exact ⟨0, by omega, rfl, (fun h => by simp at h), hbel⟩
   case round =>
    clear hbox hbel hbw hbs
    obtain ⟨j, hj, rfl, hnot, hbel⟩ := hrel
    have hbw := ybj hbel.out
    have hbs := ydh hbel.out
    have hbox := ydv hbel.out 1
    simp at hbox
    obtain ⟨g, o, rfl, hg, hc⟩ := HVC.out (by omega)
    have hx := HX.out
    obtain ⟨c0, _, _, _, _, _⟩ := hc k x hx
    by_cases hjk : j < k
    ·obtain ⟨y, hy⟩ : ∃ y, p.vars[j]? = some y := ⟨_, List.getElem?_eq_getElem (by omega)⟩
     obtain ⟨d0, _, _, _, _, _⟩ := hc j y hy
     have hgy : (p.vars.map (·.name))[j]'(by simp; omega) = y.name := by
      obtain ⟨_, h2⟩ := List.getElem?_eq_some_iff.1 hy
      simp [h2]
     have HGY := Lib.hid hgy
     rw [← hbw.cell (p := ⟨g, _, none⟩) hg] at c0 d0
     clear hc hx hy hgy
     by_cases he : yom y.name = yom x.name
     ·have hb : (y.name.toList == x.name.toList) = true := by rw [yzb]; simpa using he
      have H := Lib.hid (show ydq p = false by rw [H0.out, ysw j k hjk hlm (by rw [HGY.out, HGX.out]; exact he)]; rfl)
      clear he
      go_wp2_with fail
      go_quiet (fail)
      go_wp2_with fail
      go_ret
      exact ⟨yae H.out.symm, below_drewN hbw _⟩
     ·have hb : (y.name.toList == x.name.toList) = false := by rw [yzb]; simpa using he
      have HN2 := Lib.hid (show yom x.name ∉ ((p.vars.map (·.name)).take (j + 1)).map yom by
       rw [List.take_succ_eq_append_getElem (show j < (p.vars.map (·.name)).length by simp; omega), List.map_append, List.mem_append, HGY.out]
       rintro (h | h)
       ·exact hnot.out h
       ·simp at h; exact he h.symm)
      clear he
      go_wp2_with fail
      go_quiet (fail)
      go_wp2_with fail
      exact ⟨⟨j + 1, by omega, by go_num, HN2, below_drewN hbel.out _⟩, by simp [intOf]; omega⟩
    ·obtain rfl : j = k := by omega
     rw [← hbw.cell (p := ⟨g, _, none⟩) hg] at c0
     clear hc hx
     rcases Bool.eq_false_or_eq_true (yie x.name) with q1 | q1
     ·have HS := Lib.hid (yqx j hlm hset.out (by rw [HGX.out]; exact q1) (by rw [HGX.out]; exact hnot.out))
      go_wp2_with (go_at_call 97; refine (ynv _ _ hxn).mono ?_; rintro e w1 ⟨rfl, rfl⟩)
      exact ⟨⟨j + 1, by omega, by go_num, HS, hbel⟩, by simp [intOf]; omega⟩
     ·have H := Lib.hid (show ydq p = false by rw [H0.out, yui j hlm (by rw [HGX.out]; exact q1)]; rfl)
      go_wp2_with (go_at_call 97; refine (ynv _ _ hxn).mono ?_; rintro e w1 ⟨rfl, rfl⟩)
      go_ret
      exact ⟨yae H.out.symm, hbw⟩
  ·obtain rfl : k = p.vars.length := by omega
   have hnv := hset.out
   rw [List.take_of_length_le (by simp)] at hnv
   have H1 := Lib.hid (show ydq p = yfk (p.rules.map (·.name)) by rw [H0.out, hnv]; rfl)
   clear hnv hset H0
   obtain ⟨wo, rfl⟩ : ∃ wo : World, wo = wr := ⟨_, rfl⟩
   go_wp2_with fail
   go_loopw [5, 6] (fun i _ wr => ∃ k : Nat, k ≤ p.rules.length ∧ i = .int .i64 k ∧ Hid (yfk ((p.rules.map (·.name)).take k) = true) ∧ Hid (Below (w.heap.size + 1) (w.alloc (.cells #[.string p.name, .slice a0 p.vars.length cap0, .slice a1 p.rules.length cap1] 25)) wr)) (fun i _ _ => p.rules.length - (intOf i).toNat)
   case atStart => exact ⟨0, by omega, rfl, rfl, hbel⟩
   case round =>
    clear hbel hbw hbs hbox
    obtain ⟨k, hk, rfl, hset, hbel⟩ := hrel
    have hbw := ybj hbel.out
    have hbs := ydh hbel.out
    have hbox := ydv hbel.out 2
    simp at hbox
    by_cases hlt : k < p.rules.length
    ·obtain ⟨x, hx⟩ : ∃ x, p.rules[k]? = some x := ⟨_, List.getElem?_eq_getElem hlt⟩
     have hxn := (HNR.out x (List.mem_of_getElem? hx)).1
     have hlm : k < (p.rules.map (·.name)).length := by simpa using hlt
     have hgx : (p.rules.map (·.name))[k] = x.name := by
      obtain ⟨_, h2⟩ := List.getElem?_eq_some_iff.1 hx
      simp [h2]
     have HX := Lib.hid hx
     have HGX := Lib.hid hgx
     clear hx hgx
     obtain ⟨wo, rfl⟩ : ∃ wo : World, wo = wr := ⟨_, rfl⟩
     go_wp2_with fail
     go_loopw [6] (fun i wr => ∃ j : Nat, j ≤ k ∧ i = .int .i64 j ∧ Hid (yom x.name ∉ ((p.rules.map (·.name)).take j).map yom) ∧ Hid (Below (w.heap.size + 1) (w.alloc (.cells #[.string p.name, .slice a0 p.vars.length cap0, .slice a1 p.rules.length cap1] 25)) wr)) (fun i _ => k - (intOf i).toNat)
     case atStart => exact ⟨0, by omega, rfl, (fun h => by simp at h), hbel⟩
     case round =>
      clear hbox hbel hbw hbs
      obtain ⟨j, hj, rfl, hnot, hbel⟩ := hrel
      have hbw := ybj hbel.out
      have hbs := ydh hbel.out
      have hbox := ydv hbel.out 2
      simp at hbox
      obtain ⟨g, o, rfl, hg, hc⟩ := HRC.out (by omega)
      have hx := HX.out
      obtain ⟨_, _, _, _, c0, _, _⟩ := hc k x hx
      by_cases hjk : j < k
      ·obtain ⟨y, hy⟩ : ∃ y, p.rules[j]? = some y := ⟨_, List.getElem?_eq_getElem (by omega)⟩
       obtain ⟨_, _, _, _, d0, _, _⟩ := hc j y hy
       have hgy : (p.rules.map (·.name))[j]'(by simp; omega) = y.name := by
        obtain ⟨_, h2⟩ := List.getElem?_eq_some_iff.1 hy
        simp [h2]
       have HGY := Lib.hid hgy
       rw [← hbw.cell (p := ⟨g, _, none⟩) hg] at c0 d0
       clear hc hx hy hgy
       by_cases he : yom y.name = yom x.name
       ·have hb : (y.name.toList == x.name.toList) = true := by rw [yzb]; simpa using he
        have H := Lib.hid (show ydq p = false by rw [H1.out, ysw j k hjk hlm (by rw [HGY.out, HGX.out]; exact he)])
        clear he
        go_wp2_with fail
        go_quiet (fail)
        go_wp2_with fail
        go_ret
        exact ⟨yae H.out.symm, below_drewN hbw _⟩
       ·have hb : (y.name.toList == x.name.toList) = false := by rw [yzb]; simpa using he
        have HN2 := Lib.hid (show yom x.name ∉ ((p.rules.map (·.name)).take (j + 1)).map yom by
         rw [List.take_succ_eq_append_getElem (show j < (p.rules.map (·.name)).length by simp; omega), List.map_append, List.mem_append, HGY.out]
         rintro (h | h)
         ·exact hnot.out h
         ·simp at h; exact he h.symm)
        clear he
        go_wp2_with fail
        go_quiet (fail)
        go_wp2_with fail
        exact ⟨⟨j + 1, by omega, by go_num, HN2, below_drewN hbel.out _⟩, by simp [intOf]; omega⟩
      ·obtain rfl : j = k := by omega
       rw [← hbw.cell (p := ⟨g, _, none⟩) hg] at c0
       clear hc hx
       rcases Bool.eq_false_or_eq_true (yie x.name) with q1 | q1
       ·have HS := Lib.hid (yqx j hlm hset.out (by rw [HGX.out]; exact q1) (by rw [HGX.out]; exact hnot.out))
        go_wp2_with (go_at_call 97; refine (ynv _ _ hxn).mono ?_; rintro e w1 ⟨rfl, rfl⟩)
        exact ⟨⟨j + 1, by omega, by go_num, HS, hbel⟩, by simp [intOf]; omega⟩
       ·have H := Lib.hid (show ydq p = false by rw [H1.out, yui j hlm (by rw [HGX.out]; exact q1)])
        go_wp2_with (go_at_call 97; refine (ynv _ _ hxn).mono ?_; rintro e w1 ⟨rfl, rfl⟩)
        go_ret
        exact ⟨yae H.out.symm, hbw⟩
    ·obtain rfl : k = p.rules.length := by omega
     have H := hset.out
     rw [List.take_of_length_le (by simp)] at H
     have H2 := Lib.hid (show ydq p = true by rw [H1.out, H])
     clear H
     go_wp2_with fail
     go_ret
     exact ⟨yae H2.out.symm, hbw⟩
end
section
open Go.RowKit Go.Maps
def zpa (n : Int) (s : SetD) : Bool := ycw s.var 0 (n - 1) && yco s.val n
def yrm (l : List SetD) (n : Int) : Bool := l.all (zpa n) && decide ((l.map (·.var)).Nodup)
theorem yje (r : RuleD) (n : Int) : yci r n = (decide (1 ≤ r.sets.length) && (decide (r.sets.length ≤ 6) && (yco r.guard n && yrm r.sets n))) := rfl
theorem yzk {l : List SetD} {n : Int} (k : Nat) (hk : k < l.length) (h : zpa n l[k] = false) : yrm l n = false := by
 unfold yrm
 have : l.all (zpa n) = false := by rw [List.all_eq_false]; exact ⟨l[k], List.getElem_mem hk, by simp [h]⟩
 rw [this]; rfl
theorem zer {l : List SetD} {n : Int} (j k : Nat) (hjk : j < k) (hk : k < l.length) (h : (l[j]'(by omega)).var = l[k].var) : yrm l n = false := by
 unfold yrm
 have : ¬ (l.map (·.var)).Nodup := by
  intro hn
  have hn' := List.pairwise_iff_getElem.1 hn j k (by simp; omega) (by simpa using hk) hjk
  apply hn'
  simp [h]
 simp [this]
theorem zjt {l : List SetD} {n : Int} (k : Nat) (hk : k < l.length) (h : yrm (l.take k) n = true) (h1 : zpa n l[k] = true) (h2 : l[k].var ∉ (l.take k).map (·.var)) : yrm (l.take (k + 1)) n = true := by
 unfold yrm at *
 rw [Bool.and_eq_true, decide_eq_true_eq] at *
 rw [List.take_succ_eq_append_getElem hk, List.all_append, h.1, List.map_append]
 refine ⟨by simpa using h1, ?_⟩
 rw [List.nodup_append]
 refine ⟨h.2, by simp, ?_⟩
 intro a ha b hb
 simp only [List.map_singleton, List.mem_singleton] at hb
 subst hb
 intro hab
 exact h2 (hab ▸ ha)
theorem mem_vars {l : List SetD} {k : Nat} {x : Int} (h : x ∈ (l.take k).map (·.var)) : ∃ j, ∃ h : j < l.length, j < k ∧ l[j].var = x := by
 rw [List.mem_map] at h
 obtain ⟨s, hs, rfl⟩ := h
 obtain ⟨j, hj⟩ := List.getElem?_of_mem hs
 have hjk : j < k := by
  have := (List.getElem?_eq_some_iff.1 hj).1
  rw [List.length_take] at this; omega
 rw [List.getElem?_take, if_pos hjk] at hj
 obtain ⟨h1, h2⟩ := List.getElem?_eq_some_iff.1 hj
 exact ⟨j, h1, hjk, by rw [h2]⟩
theorem sets_again {l : List SetD} {n : Int} {k : Nat} (hk : k < l.length) (h : l[k].var ∈ (l.take k).map (·.var)) : yrm l n = false := by
 obtain ⟨j, hj, hjk, he⟩ := mem_vars h
 exact zer j k hjk hk he
def zfv (l : List SetD) : List Lit := l.map fun s => .int .i64 s.var
theorem zik {l : List SetD} {x : Int} : Lit.int .i64 x ∈ zfv l ↔ x ∈ l.map (·.var) := by
 unfold zfv
 simp only [List.mem_map, Lit.int.injEq, true_and]
theorem ilits_step (l : List SetD) (k : Nat) (hk : k < l.length) : zfv (l.take k) ++ [.int .i64 l[k].var] = zfv (l.take (k + 1)) := by
 unfold zfv; rw [List.take_succ_eq_append_getElem hk, List.map_append]; rfl
def SetsAt (l : List SetD) (n : Int) (M k : Nat) (wr : World) : Prop := yow Tryz.prog 3 4 wr M k (zfv (l.take k)) ∧ yrm (l.take k) n = true
theorem zfz : Keyed Tryz.prog 3 := int_keyed Tryz.underlying3
theorem wf_of_in {x : Int} (h : yzs x) : (Lit.int .i64 x).wf = true := by
 obtain ⟨h1, h2⟩ := h
 have e1 : IntKind.i64.min = -9223372036854775808 := by decide
 have e2 : IntKind.i64.max = 9223372036854775807 := by decide
 simp only [Lit.wf, Bool.and_eq_true, decide_eq_true_eq]
 omega
theorem zqi (x : Int) (h : yzs x) : keyOf Tryz.prog 3 (.int .i64 x) = some (.int .i64 x) := keyOf_int_mk Tryz.underlying3 (wf_of_in h)
def zhb (r : RuleD) : Prop := r.guard.length ≤ 1000 ∧ r.sets.length ≤ 1000 ∧ ∀ s ∈ r.sets, s.val.length ≤ 1000
set_option maxHeartbeats 8000000 in
theorem zdt (gv sv : Value) (r : RuleD) (n : Nat) (w : World) (hg : yei w gv r.guard) (hs : Seq (ymw w) 2 w sv r.sets) (hin : zdh r) (hl : zhb r) (hn : n ≤ 1000) :
  Calls Tryz.prog 57 #[.agg #[.string r.name, gv, sv], .int .i64 n] w fun e w' => e = .returned (.bool (yci r n)) ∧ Below w.heap.size w w' := by
 obtain ⟨hl1, hl2, hl3⟩ := hl
 obtain ⟨_, _, hi3⟩ := hin
 have HI := Lib.hid hi3
 have HL := Lib.hid hl3
 have HG := Lib.hid hg
 have HS := Lib.hid hs
 obtain ⟨ga, gcap, rfl, g1, g2, g3⟩ := hg.open
 obtain ⟨sa, scap, rfl, s1, s2, s3⟩ := yhg hs
 have HC := Lib.hid s3
 have hmm := @run_makeMap Tryz.prog
 clear hi3 hl3 g3 s3 hs hg
 by_cases h0 : r.sets.length = 0
 ·have b0 : ((r.sets.length : Int) == 0) = true := by simp [h0]
  have H := Lib.hid (show yci r n = false by rw [yje, h0]; rfl)
  have h0' : r.sets.length < 1 := by omega
  clear h0
  go_enter Tryz.func57, Tryz.ntmps57
  go_wp2_with fail
  go_ret
  exact ⟨yae H.out.symm, (Below.refl _ _).alloc (Nat.le_refl _) _⟩
 have b0 : ((r.sets.length : Int) == 0) = false := beq_eq_false_iff_ne.2 (by omega)
 by_cases h6 : 6 < r.sets.length
 ·have H := Lib.hid (show yci r n = false by rw [yje]; simp; omega)
  have b6 : decide (6 < r.sets.length) = true := by simp; omega
  go_enter Tryz.func57, Tryz.ntmps57
  go_wp2_with fail
  go_ret
  exact ⟨yae H.out.symm, (Below.refl _ _).alloc (Nat.le_refl _) _⟩
 have b6 : decide (6 < r.sets.length) = false := by simp; omega
 have b6' : decide (6 < (r.sets.length : Int)) = false := by simp; omega
 have b1 : decide (1 ≤ r.sets.length) = true := by simp; omega
 have b1' : decide (r.sets.length ≤ 6) = true := by simp; omega
 rcases Bool.eq_false_or_eq_true (yco r.guard n) with q0 | q0
 rotate_left
 ·have H := Lib.hid (show yci r n = false by rw [yje, q0]; simp)
  go_enter Tryz.func57, Tryz.ntmps57
  go_wp2_with fail
  refine (ykg _ r.guard _ _ hl1 (by exact HG.out.below ((Below.refl _ _).alloc (Nat.le_refl _) _))).mono ?_
  rintro e w1 ⟨rfl, hb1⟩
  go_wp2_with fail
  go_ret
  exact ⟨yae H.out.symm, ybj (by simpa using hb1)⟩
 have H0 := Lib.hid (show yci r n = yrm r.sets n by rw [yje, q0, b1, b1']; rfl)
 clear b1 b1'
 go_enter Tryz.func57, Tryz.ntmps57
 go_wp2_with fail
 refine (ykg _ r.guard _ _ hl1 (by exact HG.out.below ((Below.refl _ _).alloc (Nat.le_refl _) _))).mono ?_
 rintro e w1 ⟨rfl, hb1'⟩
 have hb1 : Below (w.heap.size + 1) (w.alloc (.cells #[.string r.name, .slice ga r.guard.length gcap, .slice sa r.sets.length scap] 47)) w1 := by simpa using hb1'
 have hbs1 := ydh hb1
 have hbox := ydv hb1 2
 simp at hbox
 have hne : w.heap.size ≠ w1.heap.size := by omega
 have hlt0 : w.heap.size < w1.heap.size := by omega
 clear hb1'
 go_wp2_with fail
 have hb0 : Below (w.heap.size + 1) (w.alloc (.cells #[.string r.name, .slice ga r.guard.length gcap, .slice sa r.sets.length scap] 47)) (w1.alloc (.map #[] 0)) := hb1.alloc hbs1 _
 go_loopw [7, 29] (fun _ i wr => ∃ k : Nat, k ≤ r.sets.length ∧ i = .int .i64 k ∧ Hid (SetsAt r.sets n w1.heap.size k wr) ∧ Hid (Below (w.heap.size + 1) (w.alloc (.cells #[.string r.name, .slice ga r.guard.length gcap, .slice sa r.sets.length scap] 47)) wr)) (fun _ i _ => r.sets.length - (intOf i).toNat)
 case atStart => exact ⟨0, by omega, rfl, ⟨by rw [List.take_zero]; simpa [zfv] using ytd Tryz.prog 3 4 w1, rfl⟩, hb0⟩
 case round =>
  clear hb0 hbox hne hlt0
  obtain ⟨k, hk, rfl, hset, hbel⟩ := hrel
  have hbw := ybj hbel.out
  have hbs := ydh hbel.out
  by_cases hlt : k < r.sets.length
  ·obtain ⟨g, o, rfl, hg, hc⟩ := HC.out (by omega)
   obtain ⟨x, hx⟩ : ∃ x, r.sets[k]? = some x := ⟨_, List.getElem?_eq_getElem hlt⟩
   obtain ⟨tv, ht, c0, c1⟩ := hc k x hx
   have HT := Lib.hid ht
   obtain ⟨ta, tcap, rfl, _, _, _⟩ := ht.open
   rw [← hbw.cell (p := ⟨g, _, none⟩) hg] at c0 c1
   have hgx : r.sets[k] = x := (List.getElem?_eq_some_iff.1 hx).2
   have hxi := HI.out x (List.mem_of_getElem? hx)
   have hxl := HL.out x (List.mem_of_getElem? hx)
   have HXI := Lib.hid hxi
   have HGX := Lib.hid hgx
   clear hc ht hx hgx hxi
   rcases Bool.eq_false_or_eq_true (ycw x.var 0 ((n : Int) - 1)) with q1 | q1
   rotate_left
   ·have H := Lib.hid (show yci r n = false by rw [H0.out, yzk k hlt (by rw [HGX.out, zpa, q1]; rfl)])
    go_wp2_with (go_at_call 95; refine (yfz _ _ _ _).mono ?_; rintro e w2 ⟨rfl, rfl⟩)
    go_ret
    exact ⟨yae H.out.symm, hbw.alloc (by omega) _⟩
   by_cases hmem : x.var ∈ (r.sets.take k).map (·.var)
   ·have H := Lib.hid (show yci r n = false by rw [H0.out, sets_again hlt (by rw [HGX.out]; exact hmem)])
    have yaf : ∀ ob : Obj, (Instr.lookup 121 (.map (some w1.heap.size)) (.int .i64 x.var) false).run Tryz.prog (wr.alloc ob) = .ok (.bool true) (wr.alloc ob) := fun ob =>
     (hset.out.1.below ((Below.refl _ _).alloc (Nat.le_refl _) ob)).look zfz Tryz.underlying121 Tryz.underlying4 (yrk _) (zqi x.var HXI.out.1) true (.inl ⟨zik.2 hmem, rfl⟩)
    clear hmem
    go_wp2_with (go_at_call 95; refine (yfz _ _ _ _).mono ?_; rintro e w2 ⟨rfl, rfl⟩)
    go_ret
    exact ⟨yae H.out.symm, hbw.alloc (by omega) _⟩
   have yaf : ∀ ob : Obj, (Instr.lookup 121 (.map (some w1.heap.size)) (.int .i64 x.var) false).run Tryz.prog (wr.alloc ob) = .ok (.bool false) (wr.alloc ob) := fun ob =>
     (hset.out.1.below ((Below.refl _ _).alloc (Nat.le_refl _) ob)).look zfz Tryz.underlying121 Tryz.underlying4 (yrk _) (zqi x.var HXI.out.1) false (.inr ⟨fun h => hmem (zik.1 h), rfl⟩)
   rcases Bool.eq_false_or_eq_true (yco x.val n) with q2 | q2
   rotate_left
   ·have H := Lib.hid (show yci r n = false by rw [H0.out, yzk k hlt (by rw [HGX.out, zpa, q2]; simp)])
    clear hmem
    go_wp2_with (go_at_call 95; refine (yfz _ _ _ _).mono ?_; rintro e w2 ⟨rfl, rfl⟩)
    refine (ykg _ x.val _ _ hxl (by exact HT.out.below (hbw.alloc (by omega) _))).mono ?_
    rintro e w2 ⟨rfl, hb2⟩
    go_wp2_with fail
    go_ret
    exact ⟨yae H.out.symm, (hbw.alloc (by omega) _).trans (hb2.mono (by simp; omega))⟩
   ·have HST := Lib.hid (zjt (n := (n : Int)) k hlt hset.out.2 (by rw [HGX.out, zpa, q1, q2]; rfl) (by rw [HGX.out]; exact hmem))
    have HLT := Lib.hid (show zfv (r.sets.take k) ++ [.int .i64 x.var] = zfv (r.sets.take (k + 1)) by rw [← ilits_step _ k hlt, HGX.out])
    clear hmem
    go_wp2_with (go_at_call 95; refine (yfz _ _ _ _).mono ?_; rintro e w2 ⟨rfl, rfl⟩)
    refine (ykg _ x.val _ _ hxl (by exact HT.out.below (hbw.alloc (by omega) _))).mono ?_
    rintro e w2 ⟨rfl, hb2'⟩
    have hb2 : Below (wr.heap.size + 1) (wr.alloc (.cells #[.int .i64 x.var, .slice ta x.val.length tcap] 50)) w2 := by simpa using hb2'
    have hbx := ydv hb2 0
    have hbs2 := ydh hb2
    simp at hbx
    clear hb2' yaf
    go_wp2_with (at_mapUpdate; refine yjn rfl _ _ _ 121 rfl 3 4 zfz Tryz.underlying121 Tryz.underlying4 w1.heap.size k _ rfl (by exact hset.out.1.below (ybj hb2)) (by unfold maxLen; omega) _ (.int .i64 x.var) rfl rfl (zqi x.var HXI.out.1) ?_; intro w3 hset3 hgrow)
    refine ⟨⟨k + 1, by omega, by go_num, ⟨?_, HST.out⟩, ?_⟩, by simp [intOf]; omega⟩
    ·rw [HLT.out] at hset3; exact hset3
    ·exact (hbel.out.trans ((ybj hb2).mono hbs)).grown hgrow (by omega) (fun q hq => by cases hq; exact hbs1)
  ·obtain rfl : k = r.sets.length := by omega
   have H := hset.out.2
   rw [List.take_of_length_le (by simp)] at H
   have H2 := Lib.hid (show yci r n = true by rw [H0.out, H])
   clear H
   go_wp2_with fail
   go_ret
   exact ⟨yae H2.out.symm, hbw⟩
end
section
open Go.RowKit Go.Maps
set_option maxHeartbeats 8000000 in
theorem zbz (gv sv : Value) (r : RuleD) (n : Nat) (w : World) (hg : yei w gv r.guard) (hs : Seq (ymw w) 2 w sv r.sets) (hin : zdh r) (hl : zhb r) (hn : n ≤ 1000) :
  Calls Tryz.prog 68 #[.agg #[.string r.name, gv, sv], .int .i64 n] w fun e w' => e = .returned (.bool (yci r n)) ∧ Below w.heap.size w w' := by
 obtain ⟨hl1, hl2, hl3⟩ := hl
 obtain ⟨_, _, hi3⟩ := hin
 have HI := Lib.hid hi3
 have HL := Lib.hid hl3
 have HG := Lib.hid hg
 have HS := Lib.hid hs
 obtain ⟨ga, gcap, rfl, g1, g2, g3⟩ := hg.open
 obtain ⟨sa, scap, rfl, s1, s2, s3⟩ := yhg hs
 have HC := Lib.hid s3
 clear hi3 hl3 g3 s3 hs hg
 have HW : Hid (yci r n = (ycw r.sets.length 1 6 && (yco r.guard n && yrm r.sets n))) := by
  unfold Hid
  rw [yje, ← Bool.and_assoc]
  congr 1
  rw [Bool.eq_iff_iff]; simp [ycw]; omega
 rcases Bool.eq_false_or_eq_true (ycw r.sets.length 1 6) with qw | qw
 rotate_left
 ·have H := Lib.hid (show yci r n = false by rw [HW.out, qw]; rfl)
  go_enter Tryz.func68, Tryz.ntmps68
  go_wp2_with (go_at_call 65; refine (yha _ _ _ _).mono ?_; rintro e w2 ⟨rfl, rfl⟩)
  go_ret
  exact ⟨yae H.out.symm, (Below.refl _ _).alloc (Nat.le_refl _) _⟩
 rcases Bool.eq_false_or_eq_true (yco r.guard n) with q0 | q0
 rotate_left
 ·have H := Lib.hid (show yci r n = false by rw [HW.out, q0, qw]; rfl)
  go_enter Tryz.func68, Tryz.ntmps68
  go_wp2_with (go_at_call 65; refine (yha _ _ _ _).mono ?_; rintro e w2 ⟨rfl, rfl⟩)
  refine (yre _ r.guard _ _ hl1 (by exact HG.out.below ((Below.refl _ _).alloc (Nat.le_refl _) _))).mono ?_
  rintro e w1 ⟨rfl, hb1⟩
  go_wp2_with fail
  go_ret
  exact ⟨yae H.out.symm, ybj (by simpa using hb1)⟩
 have H0 := Lib.hid (show yci r n = yrm r.sets n by rw [HW.out, q0, qw]; rfl)
 go_enter Tryz.func68, Tryz.ntmps68
 go_wp2_with (go_at_call 65; refine (yha _ _ _ _).mono ?_; rintro e w2 ⟨rfl, rfl⟩)
 refine (yre _ r.guard _ _ hl1 (by exact HG.out.below ((Below.refl _ _).alloc (Nat.le_refl _) _))).mono ?_
 rintro e w1 ⟨rfl, hb1'⟩
 have hb1 : Below (w.heap.size + 1) (w.alloc (.cells #[.string r.name, .slice ga r.guard.length gcap, .slice sa r.sets.length scap] 47)) w1 := by simpa using hb1'
 clear hb1'
 go_wp2_with fail
 go_loopw [5, 6] (fun i _ wr => ∃ k : Nat, k ≤ r.sets.length ∧ i = .int .i64 k ∧ Hid (yrm (r.sets.take k) n = true) ∧ Hid (Below (w.heap.size + 1) (w.alloc (.cells #[.string r.name, .slice ga r.guard.length gcap, .slice sa r.sets.length scap] 47)) wr)) (fun i _ _ => r.sets.length - (intOf i).toNat)
 case atStart => exact ⟨0, by omega, rfl, rfl, hb1⟩
 case round =>
  clear hb1
  obtain ⟨k, hk, rfl, hset, hbel⟩ := hrel
  have hbw := ybj hbel.out
  have hbs := ydh hbel.out
  have hbox := ydv hbel.out 2
  simp at hbox
  by_cases hlt : k < r.sets.length
  ·obtain ⟨g, o, rfl, hg, hc⟩ := HC.out (by omega)
   obtain ⟨x, hx⟩ : ∃ x, r.sets[k]? = some x := ⟨_, List.getElem?_eq_getElem hlt⟩
   obtain ⟨tv, ht, c0, c1⟩ := hc k x hx
   have HT := Lib.hid ht
   have HC0 := Lib.hid c0
   have HCC := Lib.hid hc
   obtain ⟨ta, tcap, rfl, _, _, _⟩ := ht.open
   rw [← hbw.cell (p := ⟨g, _, none⟩) hg] at c0 c1
   have hgx : r.sets[k] = x := (List.getElem?_eq_some_iff.1 hx).2
   have hxi := HI.out x (List.mem_of_getElem? hx)
   have hxl := HL.out x (List.mem_of_getElem? hx)
   have HXI := Lib.hid hxi
   have HGX := Lib.hid hgx
   clear hc ht hx hgx hxi
   rcases Bool.eq_false_or_eq_true (ycw x.var 0 ((n : Int) - 1)) with q1 | q1
   rotate_left
   ·have H := Lib.hid (show yci r n = false by rw [H0.out, yzk k hlt (by rw [HGX.out, zpa, q1]; rfl)])
    go_wp2_with (go_at_call 65; refine (yha _ _ _ _).mono ?_; rintro e w2 ⟨rfl, rfl⟩)
    go_ret
    exact ⟨yae H.out.symm, hbw⟩
   rcases Bool.eq_false_or_eq_true (yco x.val n) with q2 | q2
   rotate_left
   ·have H := Lib.hid (show yci r n = false by rw [H0.out, yzk k hlt (by rw [HGX.out, zpa, q2]; simp)])
    go_wp2_with (go_at_call 65; refine (yha _ _ _ _).mono ?_; rintro e w2 ⟨rfl, rfl⟩)
    refine (yre _ x.val _ _ hxl (by exact HT.out.below hbw)).mono ?_
    rintro e w2 ⟨rfl, hb2⟩
    go_wp2_with fail
    go_ret
    exact ⟨yae H.out.symm, yfm hbw hb2⟩
   ·go_wp2_with (go_at_call 65; refine (yha _ _ _ _).mono ?_; rintro e w2 ⟨rfl, rfl⟩)
    refine (yre _ x.val _ _ hxl (by exact HT.out.below hbw)).mono ?_
    rintro e w2 ⟨rfl, hb2⟩
    have hbel2 : Hid (Below (w.heap.size + 1) (w.alloc (.cells #[.string r.name, .slice ga r.guard.length gcap, .slice (some ⟨g, o, none⟩) r.sets.length scap] 47)) w2) := hbel.out.trans (hb2.mono hbs)
    clear hbel hb2 hbw hbs hbox c0 c1
    go_wp2_with fail
    go_loopw [6] (fun i wr => ∃ j : Nat, j ≤ k ∧ i = .int .i64 j ∧ Hid (x.var ∉ (r.sets.take j).map (·.var)) ∧ Hid (Below (w.heap.size + 1) (w.alloc (.cells #[.string r.name, .slice ga r.guard.length gcap, .slice (some ⟨g, o, none⟩) r.sets.length scap] 47)) wr)) (fun i _ => k - (intOf i).toNat)
    case atStart => exact ⟨0, by omega, rfl, (fun h => by simp at h), hbel2⟩
    case round =>
     clear hbel2
     obtain ⟨j, hj, rfl, hnot, hbel⟩ := hrel
     have hbw := ybj hbel.out
     have hbs := ydh hbel.out
     have hbox := ydv hbel.out 2
     simp at hbox
     by_cases hjk : j < k
     ·obtain ⟨y, hy⟩ : ∃ y, r.sets[j]? = some y := ⟨_, List.getElem?_eq_getElem (by omega)⟩
      obtain ⟨_, _, d0, _⟩ := HCC.out j y hy
      have c0 := HC0.out
      rw [← hbw.cell (p := ⟨g, _, none⟩) hg] at c0 d0
      have HGY : Hid (r.sets[j] = y) := (List.getElem?_eq_some_iff.1 hy).2
      clear hy
      by_cases he : y.var = x.var
      ·have hb : (y.var == x.var) = true := by simpa using he
       have H := Lib.hid (show yci r n = false by rw [H0.out, zer j k hjk hlt (by rw [HGY.out, HGX.out]; exact he)])
       clear he
       go_wp2_with fail
       go_quiet (fail)
       go_wp2_with fail
       go_ret
       exact ⟨yae H.out.symm, below_drewN hbw _⟩
      ·have hb : (y.var == x.var) = false := by simpa using he
       have HN2 := Lib.hid (show x.var ∉ (r.sets.take (j + 1)).map (·.var) by
        rw [List.take_succ_eq_append_getElem (show j < r.sets.length by omega), List.map_append, List.mem_append, HGY.out]
        rintro (h | h)
        ·exact hnot.out h
        ·simp at h; exact he h.symm)
       clear he
       go_wp2_with fail
       go_quiet (fail)
       go_wp2_with fail
       exact ⟨⟨j + 1, by omega, by go_num, HN2, below_drewN hbel.out _⟩, by simp [intOf]; omega⟩
     ·obtain rfl : j = k := by omega
      have HST := Lib.hid (zjt (n := (n : Int)) j hlt hset.out (by rw [HGX.out, zpa, q1, q2]; rfl) (by rw [HGX.out]; exact hnot.out))
      go_wp2_with fail
      exact ⟨⟨j + 1, by omega, by go_num, HST, hbel⟩, by simp [intOf]; omega⟩
  ·obtain rfl : k = r.sets.length := by omega
   have H := hset.out
   rw [List.take_of_length_le (by simp)] at H
   have H2 := Lib.hid (show yci r n = true by rw [H0.out, H])
   clear H
   go_wp2_with fail
   go_ret
   exact ⟨yae H2.out.symm, hbw⟩
end
section
open Go.RowKit
theorem wpList_append_row {P : Program} (w : World) {ops : Array Oper} {rest : List Oper} {o : Oper} {a : Act} {Q : Exit → Act → World → Prop} (hgd : o.guard = none) (s x : Operand) (t : TypeId)
  (ho : o.op = .call { callee := .builtin .append, args := #[s, x], argTypes := #[t, t] })
  (base : Nat) (e : TypeId) (i : TypeInfo) (z : Value) (size bytes : Nat) (ht : P.underlying t = some (.slice e)) (hi : P.info? e = some i) (hz : i.zero = some z)
  (hsize : i.size = size) (hby : i.bytes = bytes) (hzs : z.cells.size = size) (hsz : 0 < size)
  (v : Value) (n : Nat) (xs : List Value) (hs : a.eval s = v) (hown : w.ownsRow base e size v n xs)
  (sv : Value) (m : Nat) (news : List Value) (hx : a.eval x = sv) (hrow : Row w sv size m news) (h1 : ∀ u ∈ news, u.oneCell' = true)
  (h63 : n + m ≤ maxLen) (hbytes : (n + m) * bytes ≤ 140737488355328) (hbase : base ≤ w.heap.size)
  (h : ∀ v' w', w'.ownsRow base e size v' (n + m) (xs ++ news) → w.grownBy w' v.ownBlock → wpList P ops Q rest (a.put o.dst v') w') : wpList P ops Q (o :: rest) a w := by
 obtain ⟨ao, cap, rfl, h2, h3, h4, h5, h6⟩ := hrow
 cases ao with
 | none =>
  have hc := h5 rfl
  subst hc
  have hm : m = 0 := by omega
  subst hm
  have hn : news = [] := List.length_eq_zero_iff.1 (by simpa using h4)
  subst hn
  refine wpList_append_own_none hgd s x t ho base e i size ht hi v n xs hs hown hx (h v w ?_ ⟨rfl, rfl, rfl, Nat.le_refl _, fun _ _ _ => rfl⟩)
  simpa using hown
 | some ad =>
  refine wpList_append_own w hgd s x t ho base e i z size bytes ht hi hz hsize hby hzs hsz v n xs hs hown ad m cap news hx h4 ?_ h1 h63 hbytes hbase (fun v' w' h7 h8 _ => h v' w' h7 h8)
  intro j u hu
  rcases h6 with rfl | ⟨g, off, ha, _, hc⟩
  ·have : news = [] := List.length_eq_zero_iff.1 (by simpa using h4)
   subst this
   simp at hu
  ·cases ha
   have hadd : (⟨g, off, none⟩ : Addr).add j = ⟨g, off + j, none⟩ := by unfold Addr.add; split <;> simp_all
   rw [hadd]
   exact hc j u hu
end
section
open Go.RowKit Go.Maps
def zoo (ks : List Int) (k : Nat) : List Int := ks.take k ++ List.replicate (ks.length - k) 0
theorem kmix_zero (ks : List Int) : zoo ks 0 = List.replicate ks.length 0 := by simp [zoo]
theorem kmix_all (ks : List Int) : zoo ks ks.length = ks := by simp [zoo]
theorem kmix_length (ks : List Int) (k : Nat) (h : k ≤ ks.length) : (zoo ks k).length = ks.length := by simp [zoo]; omega
theorem kmix_step (ks : List Int) (k : Nat) (h : k < ks.length) : (zoo ks k).set k ks[k] = zoo ks (k + 1) := by
 unfold zoo
 rw [List.set_append_right _ _ (by simp; omega), List.take_succ_eq_append_getElem h, List.append_assoc]
 congr 1
 rw [List.length_take, Nat.min_eq_left (Nat.le_of_lt h), Nat.sub_self, show ks.length - k = (ks.length - (k + 1)) + 1 by omega, List.replicate_succ]
 rfl
theorem made_ints (n : Nat) : (madeCells (Value.int .i64 0).cells (n * 1)).toList = (List.replicate n (0 : Int)).map (.int .i64) := by
 apply List.ext_getElem
 ·simp [size_madeCells]
 ·intro i h1 h2
  simp [madeCells, Value.cells, Nat.mod_one]
set_option maxHeartbeats 8000000 in
theorem kinds_any (v : Value) (p : ProgD) (w : World) (hv : ygi w v p) (h6 : p.vars.length ≤ 1000) :
  Calls Tryz.prog 58 #[v] w fun e w' => ∃ kv, e = .returned kv ∧ yti .i64 w' kv (ycg p) ∧ Below w.heap.size w w' := by
 obtain ⟨vv, rv, rfl, hvv, hrv⟩ := hv
 obtain ⟨a0, cap0, rfl, i1, i2, i3⟩ := hvv.open
 obtain ⟨a1, cap1, rfl, _, _, _⟩ := hrv.open
 have HVC := Lib.hid i3
 obtain ⟨i0, hi, hz0, hz1, hz2⟩ := info_parts zau
 have Hi := Lib.hid hi
 have Hz0 := Lib.hid hz0
 have Hz1 := Lib.hid hz1
 have Hz2 := Lib.hid hz2
 have HKL := Lib.hid (show (ycg p).length = p.vars.length by simp [ycg])
 clear hi hz0 hz1 hz2 i3 hvv hrv
 go_enter Tryz.func58, Tryz.ntmps58
 go_wp2_with (at_make; refine wpList_make_full _ rfl _ _ 96 rfl (w.heap.size + 1) 3 i0 (.int .i64 0) 1 Tryz.underlying96 Hi.out Hz0.out Hz1.out .i64 .i64 _ _ p.vars.length rfl rfl rfl rfl (by rw [Hz2.out]; omega) (by unfold maxLen; omega) (by simp) ?_; intro w1 hown hgrow; have hb1 : Below (w.heap.size + 1) (w.alloc (.cells #[.string p.name, .slice a0 p.vars.length cap0, .slice a1 p.rules.length cap1] 25)) w1 := (Below.refl _ _).grown hgrow (by simp) (by simp); have hbox := ydv hb1 1; simp at hbox)
 have HM := Lib.hid (show (w1.ownsRow (w.heap.size + 1) 3 1 (.slice (some ⟨w.heap.size + 1, 0, none⟩) p.vars.length p.vars.length) p.vars.length ((zoo (ycg p) 0).map (.int .i64))) by
  rw [made_ints, ← HKL.out, ← kmix_zero] at hown
  rw [HKL.out] at hown
  simpa using hown)
 clear hown hgrow hbox
 go_loopw [4, 5, 13] (fun _ _ i wr => ∃ k : Nat, k ≤ p.vars.length ∧ i = .int .i64 k ∧ Hid (wr.ownsRow (w.heap.size + 1) 3 1 (.slice (some ⟨w.heap.size + 1, 0, none⟩) p.vars.length p.vars.length) p.vars.length ((zoo (ycg p) k).map (.int .i64))) ∧ Hid (Below (w.heap.size + 1) (w.alloc (.cells #[.string p.name, .slice a0 p.vars.length cap0, .slice a1 p.rules.length cap1] 25)) wr)) (fun _ _ i _ => p.vars.length - (intOf i).toNat)
 case atStart => exact ⟨0, by omega, rfl, HM, hb1⟩
 case round =>
  clear HM hb1
  obtain ⟨k, hk, rfl, hown, hbel⟩ := hrel
  have hbw := ybj hbel.out
  have hbs := ydh hbel.out
  by_cases hlt : k < p.vars.length
  ·obtain ⟨g, o, rfl, hg, hc⟩ := HVC.out (by omega)
   obtain ⟨x, hx⟩ : ∃ x, p.vars[k]? = some x := ⟨_, List.getElem?_eq_getElem hlt⟩
   obtain ⟨c0, c1, c2, c3, c4, c5⟩ := hc k x hx
   rw [← hbw.cell (p := ⟨g, _, none⟩) hg] at c0 c1 c2 c3 c4 c5
   have hlk : k < (ycg p).length := by rw [HKL.out]; exact hlt
   have hkx : (ycg p)[k] = x.kind := by
    obtain ⟨_, h2⟩ := List.getElem?_eq_some_iff.1 hx
    simp [ycg, h2]
   have HST := Lib.hid (show ((zoo (ycg p) k).map (Value.int .i64)).set k (.int .i64 x.kind) = (zoo (ycg p) (k + 1)).map (.int .i64) by rw [← kmix_step _ k hlk, hkx, List.map_set])
   have hoa := hown.out.alloc (.cells #[.string x.name, .int .i64 x.kind, .int .i64 x.lo, .int .i64 x.hi, .int .i64 x.perNode, .int .i64 x.perID] 43)
   obtain ⟨u, hu⟩ : ∃ u, (wr.alloc (.cells #[.string x.name, .int .i64 x.kind, .int .i64 x.lo, .int .i64 x.hi, .int .i64 x.perNode, .int .i64 x.perID] 43)).cell? ⟨w.heap.size + 1, k, none⟩ = some u := ⟨_, (hoa.cellAt k (by omega)).trans (List.getElem?_eq_getElem (by rw [List.length_map, kmix_length _ _ (by omega)]; exact hlk))⟩
   have hfz := hoa.frozenAt k
   have HOA := Lib.hid hoa
   have hlt1 : w.heap.size + 1 < wr.heap.size := (hown.out.lt _ rfl).2
   have hne1 : wr.heap.size ≠ w.heap.size + 1 := by omega
   clear hc hx hkx hoa
   go_wp2_with fail
   refine ⟨⟨k + 1, by omega, by go_num, ?_, ?_⟩, by simp [intOf]; omega⟩
   ·have := (hown.out.stored k (.int .i64 x.kind)).1
    rw [HST.out] at this
    exact this.alloc _
   ·exact (hbel.out.setCell (Nat.le_refl _) _).alloc (by simp; omega) _
  ·obtain rfl : k = p.vars.length := by omega
   have HR : Hid (yti .i64 wr (.slice (some ⟨w.heap.size + 1, 0, none⟩) p.vars.length p.vars.length) (ycg p)) := by
    have h1 := ywo hown.out
    rw [← HKL.out, kmix_all] at h1
    unfold Hid yti
    rw [HKL.out] at *
    exact h1
   go_wp2_with fail
   go_ret
   exact ⟨_, rfl, HR.out, hbw⟩
end
section
open Go.RowKit Go.Maps
set_option maxHeartbeats 8000000 in
theorem zeh (v : Value) (p : ProgD) (w : World) (hv : ygi w v p) (h6 : p.vars.length ≤ 1000) :
  Calls Tryz.prog 70 #[v] w fun e w' => ∃ kv, e = .returned kv ∧ yti .i64 w' kv (ycg p) ∧ Below w.heap.size w w' := by
 obtain ⟨vv, rv, rfl, hvv, hrv⟩ := hv
 obtain ⟨a0, cap0, rfl, i1, i2, i3⟩ := hvv.open
 obtain ⟨a1, cap1, rfl, _, _, _⟩ := hrv.open
 have HVC := Lib.hid i3
 obtain ⟨i0, hi, hz0, hz1, hz2⟩ := info_parts zau
 have Hi := Lib.hid hi
 have Hz0 := Lib.hid hz0
 have Hz1 := Lib.hid hz1
 have Hz2 := Lib.hid hz2
 have HKL := Lib.hid (show (ycg p).length = p.vars.length by simp [ycg])
 clear hi hz0 hz1 hz2 i3 hvv hrv
 go_enter Tryz.func70, Tryz.ntmps70
 go_wp2_with fail
 go_loopw [3, 4] (fun v i wr => ∃ k : Nat, k ≤ p.vars.length ∧ i = .int .i64 k ∧ Hid (wr.ownsRow (w.heap.size + 1) 3 1 v k (((ycg p).take k).map (.int .i64))) ∧ Hid (Below (w.heap.size + 1) (w.alloc (.cells #[.string p.name, .slice a0 p.vars.length cap0, .slice a1 p.rules.length cap1] 25)) wr)) (fun _ i _ => p.vars.length - (intOf i).toNat)
 case atStart => exact ⟨0, by omega, rfl, World.ownsRow_nil _ _ _ _, Below.refl _ _⟩
 case round =>
  obtain ⟨k, hk, rfl, hown, hbel⟩ := hrel
  have hbw := ybj hbel.out
  have hbs := ydh hbel.out
  have hbox := ydv hbel.out 1
  simp at hbox
  by_cases hlt : k < p.vars.length
  ·obtain ⟨g, o, rfl, hg, hc⟩ := HVC.out (by omega)
   obtain ⟨x, hx⟩ : ∃ x, p.vars[k]? = some x := ⟨_, List.getElem?_eq_getElem hlt⟩
   obtain ⟨_, c1, _, _, _, _⟩ := hc k x hx
   rw [← hbw.cell (p := ⟨g, _, none⟩) hg] at c1
   have HST := Lib.hid (show ((ycg p).take k).map (Value.int .i64) ++ [.int .i64 x.kind] = ((ycg p).take (k + 1)).map (.int .i64) by
    obtain ⟨_, h2⟩ := List.getElem?_eq_some_iff.1 hx
    rw [List.take_succ_eq_append_getElem (show k < (ycg p).length by rw [HKL.out]; exact hlt), List.map_append]
    simp [ycg, h2])
   have hlt0 : w.heap.size < wr.heap.size := by omega
   clear hc hx
   go_wp2_with (at_builtin; refine wpList_append_row _ rfl _ _ 96 rfl (w.heap.size + 1) 3 i0 (.int .i64 0) 1 8 Tryz.underlying96 Hi.out Hz0.out Hz1.out Hz2.out rfl (by decide) _ k _ rfl (hown.out.alloc _) _ 1 [.int .i64 x.kind] rfl (row_alloc wr [.int .i64 x.kind] _ 1 1 (by omega) rfl) (by simp [Value.oneCell']) (by unfold maxLen; omega) (by omega) (by simp; omega) ?_; intro v2 w2 hown2 hgrow)
   refine ⟨⟨k + 1, by omega, by go_num, ?_, ?_⟩, by simp [intOf]; omega⟩
   ·rw [HST.out] at hown2; exact hown2
   ·exact (hbel.out.alloc hbs _).grown hgrow (by simp; omega) (yxx hown.out)
  ·obtain rfl : k = p.vars.length := by omega
   have HR : Hid (yti .i64 wr u3 (ycg p)) := by
    have h1 := ywo hown.out
    rw [List.take_of_length_le (by rw [HKL.out]; omega)] at h1
    unfold Hid yti
    rw [HKL.out]
    exact h1
   go_wp2_with fail
   go_ret
   exact ⟨_, rfl, HR.out, hbw⟩
theorem zka {r : RuleD} {kinds : List Int} (h : ((ofF r.guard kinds false).1 == 2) = true) : ygw r kinds = r.sets.all (fun s => (ofF s.val kinds false).1 == kinds.getD s.var.toNat 0) := by unfold ygw; rw [h]; rfl
set_option maxHeartbeats 8000000 in
theorem zjz (gv sv kv : Value) (r : RuleD) (kinds : List Int) (w : World) (hg : yei w gv r.guard) (hs : Seq (ymw w) 2 w sv r.sets) (hk : yti .i64 w kv kinds) (hl : zhb r) (hvar : ∀ s ∈ r.sets, 0 ≤ s.var ∧ s.var < kinds.length) :
  Calls Tryz.prog 59 #[.agg #[.string r.name, gv, sv], kv] w fun e w' => e = .returned (.bool (ygw r kinds)) ∧ Below w.heap.size w w' := by
 obtain ⟨hl1, hl2, hl3⟩ := hl
 have HL := Lib.hid hl3
 have HG := Lib.hid hg
 have HK := Lib.hid hk
 have HVAR := Lib.hid hvar
 obtain ⟨ga, gcap, rfl, g1, g2, g3⟩ := hg.open
 obtain ⟨sa, scap, rfl, s1, s2, s3⟩ := yhg hs
 obtain ⟨ka, kcap, rfl, k1, k2, _, k4⟩ := hk.open
 have HC := Lib.hid s3
 have HKC := Lib.hid k4
 clear hl3 g3 s3 hs hg k4 hk hvar
 obtain ⟨ta, tb, hab⟩ : ∃ a b, ofF r.guard kinds false = (a, b) := ⟨_, _, rfl⟩
 have HAB := Lib.hid hab
 have HT1 : Hid ((ofF r.guard kinds false).1 = ta) := by rw [hab]; rfl
 clear hab
 have hbA : Below w.heap.size w (w.alloc (.cells #[.string r.name, .slice ga r.guard.length gcap, .slice sa r.sets.length scap] 47)) := (Below.refl _ _).alloc (Nat.le_refl _) _
 by_cases h2 : ta = 2
 rotate_left
 ·have b2 : (ta != 2) = true := by simp [h2]
  have H := Lib.hid (show ygw r kinds = false by unfold ygw; rw [HT1.out, show (ta == 2) = false by simpa using h2]; rfl)
  go_enter Tryz.func59, Tryz.ntmps59
  go_wp2_with fail
  refine (zsc _ _ r.guard kinds false ta tb _ (by omega) (HG.out.below hbA) (HK.out.below hbA) HAB.out).mono ?_
  rintro e w1 ⟨rfl, hb1⟩
  go_wp2_with fail
  go_ret
  exact ⟨yae H.out.symm, ybj (by simpa using hb1)⟩
 have b2 : (ta != 2) = false := by simp [h2]
 have H0 := Lib.hid (zka (r := r) (kinds := kinds) (by rw [HT1.out, h2]; rfl))
 clear h2
 go_enter Tryz.func59, Tryz.ntmps59
 go_wp2_with fail
 refine (zsc _ _ r.guard kinds false ta tb _ (by omega) (HG.out.below hbA) (HK.out.below hbA) HAB.out).mono ?_
 rintro e w1 ⟨rfl, hb1'⟩
 have hb1 : Below (w.heap.size + 1) (w.alloc (.cells #[.string r.name, .slice ga r.guard.length gcap, .slice sa r.sets.length scap] 47)) w1 := by simpa using hb1'
 have hbox := ydv hb1 2
 simp at hbox
 clear hb1'
 go_wp2_with fail
 clear hbox
 go_loopw [8, 9, 10, 23] (fun _ _ _ i wr => ∃ k : Nat, k ≤ r.sets.length ∧ i = .int .i64 k ∧ Hid ((r.sets.take k).all (fun s => (ofF s.val kinds false).1 == kinds.getD s.var.toNat 0) = true) ∧ Hid (Below (w.heap.size + 1) (w.alloc (.cells #[.string r.name, .slice ga r.guard.length gcap, .slice sa r.sets.length scap] 47)) wr)) (fun _ _ _ i _ => r.sets.length - (intOf i).toNat)
 case atStart => exact ⟨0, by omega, rfl, rfl, hb1⟩
 case round =>
  clear hb1
  obtain ⟨k, hk, rfl, hall, hbel⟩ := hrel
  have hbw := ybj hbel.out
  have hbs := ydh hbel.out
  by_cases hlt : k < r.sets.length
  ·obtain ⟨g, o, rfl, hg, hc⟩ := HC.out (by omega)
   obtain ⟨x, hx⟩ : ∃ x, r.sets[k]? = some x := ⟨_, List.getElem?_eq_getElem hlt⟩
   obtain ⟨tv, ht, c0, c1⟩ := hc k x hx
   have HT := Lib.hid ht
   obtain ⟨xa, xcap, rfl, _, _, _⟩ := ht.open
   rw [← hbw.cell (p := ⟨g, _, none⟩) hg] at c0 c1
   have HGX : Hid (r.sets[k] = x) := (List.getElem?_eq_some_iff.1 hx).2
   have hxl := HL.out x (List.mem_of_getElem? hx)
   obtain ⟨v0, v1⟩ := HVAR.out x (List.mem_of_getElem? hx)
   obtain ⟨q, hq⟩ := Int.eq_ofNat_of_zero_le v0
   obtain ⟨kg, ko, rfl, hkg, hkc⟩ := HKC.out (by omega)
   obtain ⟨z, hz⟩ : ∃ z, kinds.getD q 0 = z := ⟨_, rfl⟩
   have hkz := hkc q z (by rw [yvx kinds q (by omega), hz])
   obtain ⟨sa1, sb1, hsab⟩ : ∃ a b, ofF x.val kinds false = (a, b) := ⟨_, _, rfl⟩
   have HSAB := Lib.hid hsab
   have HEQ : Hid (((ofF x.val kinds false).1 == kinds.getD x.var.toNat 0) = (sa1 == z)) := by unfold Hid; rw [hsab, hq, Int.toNat_natCast, hz]
   have hql : q < kinds.length := by omega
   rw [hq] at c0
   have HKZ := Lib.hid hkz
   have HQ := Lib.hid hq
   clear hc ht hx hkc hz hsab v0 v1 hkz hq
   by_cases he : sa1 = z
   ·have b3 : (sa1 != z) = false := by simp [he]
    have HST := Lib.hid (yii (f := fun s : SetD => (ofF s.val kinds false).1 == kinds.getD s.var.toNat 0) k hlt hall.out (by rw [HGX.out, HEQ.out]; simpa using he))
    clear he
    go_wp2_with fail
    refine (zsc _ _ x.val kinds false sa1 sb1 _ (by omega) (HT.out.below (hbw.alloc (by omega) _)) (HK.out.below (hbw.alloc (by omega) _)) HSAB.out).mono ?_
    rintro e w2 ⟨rfl, hb2'⟩
    have hb2 : Below (wr.heap.size + 1) (wr.alloc (.cells #[.int .i64 (q : Int), .slice xa x.val.length xcap] 50)) w2 := by simpa using hb2'
    have hbx := ydv hb2 0
    simp at hbx
    have hb02 := yfm hbw (ybj hb2)
    have hkz := HKZ.out
    rw [← hb02.cell (p := ⟨kg, _, none⟩) hkg] at hkz
    clear hb2'
    go_wp2_with fail
    exact ⟨⟨k + 1, by omega, by go_num, HST, hbel.out.trans ((ybj hb2).mono hbs)⟩, by simp [intOf]; omega⟩
   ·have b3 : (sa1 != z) = true := by simp [he]
    have H := Lib.hid (show ygw r kinds = false by rw [H0.out, yih k hlt (by rw [HGX.out, HEQ.out]; simpa using he)])
    clear he
    go_wp2_with fail
    refine (zsc _ _ x.val kinds false sa1 sb1 _ (by omega) (HT.out.below (hbw.alloc (by omega) _)) (HK.out.below (hbw.alloc (by omega) _)) HSAB.out).mono ?_
    rintro e w2 ⟨rfl, hb2'⟩
    have hb2 : Below (wr.heap.size + 1) (wr.alloc (.cells #[.int .i64 (q : Int), .slice xa x.val.length xcap] 50)) w2 := by simpa using hb2'
    have hbx := ydv hb2 0
    simp at hbx
    have hb02 := yfm hbw (ybj hb2)
    have hkz := HKZ.out
    rw [← hb02.cell (p := ⟨kg, _, none⟩) hkg] at hkz
    clear hb2'
    go_wp2_with fail
    go_ret
    exact ⟨yae H.out.symm, hb02⟩
  ·obtain rfl : k = r.sets.length := by omega
   have H2 := Lib.hid (show ygw r kinds = true by rw [H0.out, ylg hall.out])
   go_wp2_with fail
   go_ret
   exact ⟨yae H2.out.symm, hbw⟩
end
end Go.Proofs.YtefiainojfeagaaGreatDoor
