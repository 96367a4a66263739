/- Part 14 of the texts under MemoryReadsAndWrites,MemoryReadsBack: joined, with what it needs alone. -/
import Derived.Below
import Derived.Test.YtmlkdoimkdbdpaaGreatDoorRows
import Derived.WalkKit
import Derived.WalkSpells
import Derived.WalkLawsBesides
import Derived.Lib.Hide
import Derived.Test.YtmlkdoimkdbdpaaGreatDoorL12
import Derived.Test.YtmlkdoimkdbdpaaGreatDoorL13
set_option maxRecDepth 100000
namespace Go.Proofs.YtmlkdoimkdbdpaaGreatDoor
open Go.RowKit

theorem ar_zero {op : Int} (h : ar op = 0) : 1 ≤ op ∧ op ≤ 17 := by
  unfold ar at h; (repeat' split at h) <;> omega
theorem ar_one {op : Int} (h : ar op = 1) : 18 ≤ op ∧ op ≤ 29 := by
  unfold ar at h; (repeat' split at h) <;> omega
theorem ar_two {op : Int} (h : ar op = 2) : 30 ≤ op ∧ op ≤ 42 := by
  unfold ar at h; (repeat' split at h) <;> omega
theorem ar_three {op : Int} (h : ar op = 3) : op = 43 := by
  unfold ar at h; (repeat' split at h) <;> omega
theorem arg_leaf {kinds : List Int} {t : Tm} (h : argB kinds.length t = true) : t.1 = 5 ∨ t.1 = 12 → 0 ≤ t.2 ∧ t.2 < kinds.length := by
  intro h5
  unfold argB at h
  rw [if_neg (by omega), if_pos h5] at h
  simpa using h
theorem drop_get {l : List Tm} {p : Nat} {t : Tm} {r : List Tm} (h : l.drop p = t :: r) : p < l.length ∧ l[p]? = some t ∧ l.drop (p + 1) = r := by
  have h1 : p < l.length := by
    rcases Nat.lt_or_ge p l.length with h1 | h1
    · exact h1
    · rw [List.drop_eq_nil_of_le h1] at h; cases h
  rw [List.drop_eq_getElem_cons h1] at h
  simp only [List.cons.injEq] at h
  exact ⟨h1, by rw [List.getElem?_eq_getElem h1, h.1], h.2⟩
def ReadRet (kinds : List Int) (bound : Bool) (E : Ex) (p : Nat) (w : World) (e : Ending) (w' : World) : Prop :=
  e = .returned (.tuple #[.int .i64 (ty kinds bound E), .int .i64 ((p + E.fl.length : Nat) : Int)]) ∧ Below w.heap.size w w'
def ReadsAt (ev kv : Value) (l : List Tm) (kinds : List Int) (E : Ex) : Prop :=
  ∀ (p : Nat) (r : List Tm) (bound : Bool) (w : World), l.drop p = E.fl ++ r → ycu w ev l → Ints .i64 w kv kinds →
    Calls Tryz.prog 119 #[.agg #[ev, kv], .int .i64 p, .bool bound] w (ReadRet kinds bound E p w)

set_option maxHeartbeats 1000000 in
theorem read_leaf (ev kv : Value) (l : List Tm) (kinds : List Int) (t : Tm) (hl : l.length ≤ 1000) (h0 : ar t.1 = 0) (ha : Hid (argB kinds.length t = true)) : ReadsAt ev kv l kinds (.lf t) := by
  intro p r bound w hd ht hk
  obtain ⟨a0, cap0, rfl, h1, h2, h3⟩ := ht.open
  obtain ⟨hp, hpt, _⟩ := drop_get hd
  obtain ⟨g, o, rfl, hg, hc⟩ := h3 (by omega)
  obtain ⟨c0, c1⟩ := hc p t hpt
  obtain ⟨h11, h17⟩ := ar_zero h0
  have HT := Lib.hid ht
  have HK := Lib.hid hk
  have HR : Hid (ty kinds bound (.lf t) = if nearB t.1 && !bound then 0 else leafTy kinds t) := rfl
  have hz : (ar t.1 == 0) = true := by rw [h0]; rfl
  have hlen : Hid ((Ex.lf t).fl.length = 1) := rfl
  clear hc h3 hpt hd ht hk h0
  obtain ⟨op, x⟩ := t
  simp only at *
  rcases Bool.eq_false_or_eq_true (nearB op) with hn | hn <;> cases bound
  all_goals
    go_enter Tryz.func119, Tryz.ntmps119
    go_wp2_with (first | (go_at_call 141; refine (yfh _ _).mono ?_; rintro e w' ⟨rfl, rfl⟩) | (go_at_call 146; refine (near_any _ _).mono ?_; rintro e w' ⟨rfl, rfl⟩) | (go_at_call 147; refine (leaf_any _ _ kinds op x _ (by exact Ints.below HK.out (by repeat (first | exact Below.refl _ _ | refine Below.alloc ?_ (by simp) _))) h11 h17 (arg_leaf ha.out)).mono ?_; rintro e w1 ⟨rfl, hb1⟩))
    go_ret2
    refine ⟨by rw [HR.out, hlen.out]; simp [hn], ?_⟩
    first | exact Below.trans (by repeat (first | exact Below.refl _ _ | refine Below.alloc ?_ (by simp) _)) (hb1.mono (by simp; omega)) | (repeat (first | exact Below.refl _ _ | refine Below.alloc ?_ (by simp) _))

set_option maxHeartbeats 2000000 in
theorem read_un (ev kv : Value) (l : List Tm) (kinds : List Int) (t : Tm) (A : Ex) (hl : l.length ≤ 1000) (h0 : ar t.1 = 1) (ihA : ReadsAt ev kv l kinds A) : ReadsAt ev kv l kinds (.un t A) := by
  intro p r bound w hd ht hk
  obtain ⟨a0, cap0, rfl, h1, h2, h3⟩ := ht.open
  simp only [Ex.fl, List.cons_append] at hd
  obtain ⟨hp, hpt, hd1⟩ := drop_get hd
  obtain ⟨g, o, rfl, hg, hc⟩ := h3 (by omega)
  obtain ⟨c0, c1⟩ := hc p t hpt
  obtain ⟨h18, h29⟩ := ar_one h0
  have HT := Lib.hid ht
  have HK := Lib.hid hk
  have HD1 := Lib.hid hd1
  have HIA := Lib.hid ihA
  have HR : Hid (ty kinds bound (.un t A) = resTy t.1 (ty kinds (bound || aggB t.1) A) 0 0) := by unfold resTy; rw [if_pos h0]; rfl
  have hz : (ar t.1 == 0) = false := by rw [h0]; rfl
  have hlen := Lib.hid (show (Ex.un t A).fl.length = 1 + A.fl.length by simp [Ex.fl]; omega)
  have hpl : p + 1 ≤ 1000 := by omega
  clear hc h3 hpt hd ht hk hd1 ihA
  obtain ⟨op, x⟩ := t
  simp only at *
  rcases Bool.eq_false_or_eq_true (aggB op) with hn | hn <;> cases bound
  all_goals
    simp only [hn, Bool.or_true, Bool.or_false] at HR
    go_enter Tryz.func119, Tryz.ntmps119
    go_wp2_with (first | (go_at_call 141; refine (yfh _ _).mono ?_; rintro e w' ⟨rfl, rfl⟩) | (go_at_call 145; refine (aggregate_any _ _).mono ?_; rintro e w' ⟨rfl, rfl⟩))
    refine wp_loop_rounds 2 ?_
    rw [rounds_succ]
    go_wp2_with fail
    rw [show ((p : Int) + 1) = ((p + 1 : Nat) : Int) by omega]
    refine (HIA.out (p + 1) r _ _ HD1.out (by exact ycu.below HT.out (by repeat (first | exact Below.refl _ _ | refine Below.alloc ?_ (by first | (simp; done) | (simp; omega)) _))) (by exact Ints.below HK.out (by repeat (first | exact Below.refl _ _ | refine Below.alloc ?_ (by first | (simp; done) | (simp; omega)) _)))).mono ?_
    rintro e w1 ⟨rfl, hb1⟩
    obtain ⟨hcl, hfz⟩ := bcell hb1
    have hsz := hb1.size
    simp at hsz
    generalize ty kinds _ A = ta at *
    go_wp2_with fail
    rw [rounds_succ]
    go_wp2_with (first | (go_at_call 148; refine (result_any _ _ _ _ _ (by omega) (by omega)).mono ?_; rintro e w2 ⟨rfl, hb2⟩))
    have B1 : Below w.heap.size w w1 := Below.trans (by repeat (first | exact Below.refl _ _ | refine Below.alloc ?_ (by first | (simp; done) | (simp; omega)) _)) (hb1.mono (by simp; omega))
    have B2 := B1.size
    go_ret2
    refine ⟨by rw [HR.out, hlen.out]; simp; omega, Below.trans (B1.setCell ?_ _) (hb2.mono ?_)⟩
    · simp; omega
    · simp; omega

set_option maxHeartbeats 4000000 in
theorem read_bi (ev kv : Value) (l : List Tm) (kinds : List Int) (t : Tm) (A B : Ex) (hl : l.length ≤ 1000) (h0 : ar t.1 = 2) (ihA : ReadsAt ev kv l kinds A) (ihB : ReadsAt ev kv l kinds B) : ReadsAt ev kv l kinds (.bi t A B) := by
  intro p r bound w hd ht hk
  obtain ⟨a0, cap0, rfl, h1, h2, h3⟩ := ht.open
  simp only [Ex.fl, List.cons_append, List.append_assoc] at hd
  obtain ⟨hp, hpt, hd1⟩ := drop_get hd
  obtain ⟨g, o, rfl, hg, hc⟩ := h3 (by omega)
  obtain ⟨c0, c1⟩ := hc p t hpt
  have h18 : 18 ≤ t.1 ∧ t.1 ≤ 43 := by have := ar_two h0; omega
  have h18a := h18.1
  have h18b := h18.2
  have HT := Lib.hid ht
  have HK := Lib.hid hk
  have HDA := Lib.hid hd1
  have hdB : l.drop (p + 1 + A.fl.length) = B.fl ++ r := by rw [← List.drop_drop, hd1, List.drop_append_of_le_length (Nat.le_refl _), List.drop_length, List.nil_append]
  have HDB := Lib.hid hdB
  have HIA := Lib.hid ihA
  have HIB := Lib.hid ihB
  have HR : Hid (ty kinds bound (.bi t A B) = resTy t.1 (ty kinds bound A) (ty kinds bound B) 0) := by unfold resTy; rw [if_neg (by omega), if_pos h0]; rfl
  have hz : (ar t.1 == 0) = false := by rw [h0]; rfl
  have hn : aggB t.1 = false := agg_no (by omega)
  have hlen := Lib.hid (show (Ex.bi t A B).fl.length = 1 + A.fl.length + B.fl.length by simp [Ex.fl]; omega)
  have hll : Hid (l.length - p = 1 + A.fl.length + B.fl.length + r.length) := by
    have := congrArg List.length hd
    rw [List.length_drop] at this
    simp at this
    unfold Hid; omega
  clear hc h3 hpt hd ht hk hd1 ihA ihB hdB h18
  obtain ⟨op, x⟩ := t
  simp only at *
  cases bound
  all_goals
    go_enter Tryz.func119, Tryz.ntmps119
    go_wp2_with (first | (go_at_call 141; refine (yfh _ _).mono ?_; rintro e w' ⟨rfl, rfl⟩) | (go_at_call 145; refine (aggregate_any _ _).mono ?_; rintro e w' ⟨rfl, rfl⟩))
    refine wp_loop_rounds 3 ?_
    rw [rounds_succ]
    go_wp2_with fail
    rw [show ((p : Int) + 1) = ((p + 1 : Nat) : Int) by omega]
    refine (HIA.out (p + 1) _ _ _ HDA.out (by exact ycu.below HT.out (by repeat (first | exact Below.refl _ _ | refine Below.alloc ?_ (by first | (simp; done) | (simp; omega)) _))) (by exact Ints.below HK.out (by repeat (first | exact Below.refl _ _ | refine Below.alloc ?_ (by first | (simp; done) | (simp; omega)) _)))).mono ?_
    rintro e w1 ⟨rfl, hb1⟩
    obtain ⟨hcl1, hfz1⟩ := bcell hb1
    have hsz1 := hb1.size
    simp at hsz1
    have B1 : Below w.heap.size w w1 := Below.trans (by repeat (first | exact Below.refl _ _ | refine Below.alloc ?_ (by first | (simp; done) | (simp; omega)) _)) (hb1.mono (by simp; omega))
    have B1s := B1.size
    have z1a : w.heap.size < w1.heap.size := by omega
    have z1b : w.heap.size + 1 < w1.heap.size := by omega
    have z1c : w.heap.size + 1 + 1 < w1.heap.size := by omega
    generalize ty kinds _ A = ta at *
    generalize hq1 : p + 1 + A.fl.length = q1 at *
    have HQ1 := Lib.hid hq1
    clear hq1
    have hqb2 : q1 ≤ 1000 := by have e1 := HQ1.out; have e2 := hll.out; omega
    go_wp2_with fail
    rw [rounds_succ]
    go_wp2_with fail
    refine (HIB.out q1 _ _ _ HDB.out (by exact ycu.below HT.out (B1.setCell (by first | (simp; done) | (simp; omega)) _)) (by exact Ints.below HK.out (B1.setCell (by first | (simp; done) | (simp; omega)) _))).mono ?_
    rintro e w2 ⟨rfl, hb2⟩
    obtain ⟨hcl2, hfz2⟩ := bcell hb2
    have hsz2 := hb2.size
    simp at hsz2
    have B2 : Below w.heap.size w w2 := Below.trans (B1.setCell (by first | (simp; done) | (simp; omega)) _) (hb2.mono (by simp; omega))
    have B2s := B2.size
    have z2a : w.heap.size < w2.heap.size := by omega
    have z2b : w.heap.size + 1 < w2.heap.size := by omega
    have z2c : w.heap.size + 1 + 1 < w2.heap.size := by omega
    generalize ty kinds _ B = tb at *
    generalize hq2 : q1 + B.fl.length = q2 at *
    have HQ2 := Lib.hid hq2
    clear hq2
    have hqe : q2 ≤ 1000 := by have e1 := HQ1.out; have e2 := hll.out; have e3 := HQ2.out; omega
    go_wp2_with fail
    rw [rounds_succ]
    go_wp2_with (first | (go_at_call 148; refine (result_any _ _ _ _ _ (by omega) (by omega)).mono ?_; rintro e wz ⟨rfl, hbz⟩))
    go_ret2
    refine ⟨?_, Below.trans (B2.setCell ?_ _) (hbz.mono ?_)⟩
    · rw [HR.out, hlen.out, show p + (1 + A.fl.length + B.fl.length) = q2 by have e1 := HQ1.out; have e3 := HQ2.out; omega]; rfl
    · first | (simp; done) | (simp; omega)
    · simp; omega

set_option maxHeartbeats 4000000 in
theorem read_tr (ev kv : Value) (l : List Tm) (kinds : List Int) (t : Tm) (A B C : Ex) (hl : l.length ≤ 1000) (h0 : ar t.1 = 3) (ihA : ReadsAt ev kv l kinds A) (ihB : ReadsAt ev kv l kinds B) (ihC : ReadsAt ev kv l kinds C) : ReadsAt ev kv l kinds (.tr t A B C) := by
  intro p r bound w hd ht hk
  obtain ⟨a0, cap0, rfl, h1, h2, h3⟩ := ht.open
  simp only [Ex.fl, List.cons_append, List.append_assoc] at hd
  obtain ⟨hp, hpt, hd1⟩ := drop_get hd
  obtain ⟨g, o, rfl, hg, hc⟩ := h3 (by omega)
  obtain ⟨c0, c1⟩ := hc p t hpt
  have h18 : 18 ≤ t.1 ∧ t.1 ≤ 43 := by have := ar_three h0; omega
  have h18a := h18.1
  have h18b := h18.2
  have HT := Lib.hid ht
  have HK := Lib.hid hk
  have HDA := Lib.hid hd1
  have hdB : l.drop (p + 1 + A.fl.length) = B.fl ++ (C.fl ++ r) := by rw [← List.drop_drop, hd1, List.drop_append_of_le_length (Nat.le_refl _), List.drop_length, List.nil_append]
  have HDB := Lib.hid hdB
  have hdC : l.drop (p + 1 + A.fl.length + B.fl.length) = C.fl ++ r := by rw [← List.drop_drop, hdB, List.drop_append_of_le_length (Nat.le_refl _), List.drop_length, List.nil_append]
  have HDC := Lib.hid hdC
  have HIA := Lib.hid ihA
  have HIB := Lib.hid ihB
  have HIC := Lib.hid ihC
  have HR : Hid (ty kinds bound (.tr t A B C) = resTy t.1 (ty kinds bound A) (ty kinds bound B) (ty kinds bound C)) := by unfold resTy; rw [if_neg (by omega), if_neg (by omega)]; rfl
  have hz : (ar t.1 == 0) = false := by rw [h0]; rfl
  have hn : aggB t.1 = false := agg_no (by omega)
  have hlen := Lib.hid (show (Ex.tr t A B C).fl.length = 1 + A.fl.length + B.fl.length + C.fl.length by simp [Ex.fl]; omega)
  have hll : Hid (l.length - p = 1 + A.fl.length + B.fl.length + C.fl.length + r.length) := by
    have := congrArg List.length hd
    rw [List.length_drop] at this
    simp at this
    unfold Hid; omega
  clear hc h3 hpt hd ht hk hd1 ihA ihB ihC hdB hdC h18
  obtain ⟨op, x⟩ := t
  simp only at *
  cases bound
  all_goals
    go_enter Tryz.func119, Tryz.ntmps119
    go_wp2_with (first | (go_at_call 141; refine (yfh _ _).mono ?_; rintro e w' ⟨rfl, rfl⟩) | (go_at_call 145; refine (aggregate_any _ _).mono ?_; rintro e w' ⟨rfl, rfl⟩))
    refine wp_loop_rounds 4 ?_
    rw [rounds_succ]
    go_wp2_with fail
    rw [show ((p : Int) + 1) = ((p + 1 : Nat) : Int) by omega]
    refine (HIA.out (p + 1) _ _ _ HDA.out (by exact ycu.below HT.out (by repeat (first | exact Below.refl _ _ | refine Below.alloc ?_ (by first | (simp; done) | (simp; omega)) _))) (by exact Ints.below HK.out (by repeat (first | exact Below.refl _ _ | refine Below.alloc ?_ (by first | (simp; done) | (simp; omega)) _)))).mono ?_
    rintro e w1 ⟨rfl, hb1⟩
    obtain ⟨hcl1, hfz1⟩ := bcell hb1
    have hsz1 := hb1.size
    simp at hsz1
    have B1 : Below w.heap.size w w1 := Below.trans (by repeat (first | exact Below.refl _ _ | refine Below.alloc ?_ (by first | (simp; done) | (simp; omega)) _)) (hb1.mono (by simp; omega))
    have B1s := B1.size
    have z1a : w.heap.size < w1.heap.size := by omega
    have z1b : w.heap.size + 1 < w1.heap.size := by omega
    have z1c : w.heap.size + 1 + 1 < w1.heap.size := by omega
    generalize ty kinds _ A = ta at *
    generalize hq1 : p + 1 + A.fl.length = q1 at *
    have HQ1 := Lib.hid hq1
    clear hq1
    have hqb2 : q1 ≤ 1000 := by have e1 := HQ1.out; have e2 := hll.out; omega
    go_wp2_with fail
    rw [rounds_succ]
    go_wp2_with fail
    refine (HIB.out q1 _ _ _ HDB.out (by exact ycu.below HT.out (B1.setCell (by first | (simp; done) | (simp; omega)) _)) (by exact Ints.below HK.out (B1.setCell (by first | (simp; done) | (simp; omega)) _))).mono ?_
    rintro e w2 ⟨rfl, hb2⟩
    obtain ⟨hcl2, hfz2⟩ := bcell hb2
    have hsz2 := hb2.size
    simp at hsz2
    have B2 : Below w.heap.size w w2 := Below.trans (B1.setCell (by first | (simp; done) | (simp; omega)) _) (hb2.mono (by simp; omega))
    have B2s := B2.size
    have z2a : w.heap.size < w2.heap.size := by omega
    have z2b : w.heap.size + 1 < w2.heap.size := by omega
    have z2c : w.heap.size + 1 + 1 < w2.heap.size := by omega
    generalize ty kinds _ B = tb at *
    generalize hq2 : q1 + B.fl.length = q2 at *
    have HQ2 := Lib.hid hq2
    clear hq2
    have hqb3 : q2 ≤ 1000 := by have e1 := HQ1.out; have e2 := hll.out; have e3 := HQ2.out; omega
    go_wp2_with fail
    rw [rounds_succ]
    go_wp2_with fail
    refine (HIC.out q2 _ _ _ HDC.out (by exact ycu.below HT.out (B2.setCell (by first | (simp; done) | (simp; omega)) _)) (by exact Ints.below HK.out (B2.setCell (by first | (simp; done) | (simp; omega)) _))).mono ?_
    rintro e w3 ⟨rfl, hb3⟩
    obtain ⟨hcl3, hfz3⟩ := bcell hb3
    have hsz3 := hb3.size
    simp at hsz3
    have B3 : Below w.heap.size w w3 := Below.trans (B2.setCell (by first | (simp; done) | (simp; omega)) _) (hb3.mono (by simp; omega))
    have B3s := B3.size
    have z3a : w.heap.size < w3.heap.size := by omega
    have z3b : w.heap.size + 1 < w3.heap.size := by omega
    have z3c : w.heap.size + 1 + 1 < w3.heap.size := by omega
    generalize ty kinds _ C = tc at *
    generalize hq3 : q2 + C.fl.length = q3 at *
    have HQ3 := Lib.hid hq3
    clear hq3
    have hqe : q3 ≤ 1000 := by have e1 := HQ1.out; have e2 := hll.out; have e3 := HQ2.out; have e4 := HQ3.out; omega
    go_wp2_with fail
    rw [rounds_succ]
    go_wp2_with (first | (go_at_call 148; refine (result_any _ _ _ _ _ (by omega) (by omega)).mono ?_; rintro e wz ⟨rfl, hbz⟩))
    go_ret2
    refine ⟨?_, Below.trans (B3.setCell ?_ _) (hbz.mono ?_)⟩
    · rw [HR.out, hlen.out, show p + (1 + A.fl.length + B.fl.length + C.fl.length) = q3 by have e1 := HQ1.out; have e3 := HQ2.out; have e4 := HQ3.out; omega]; rfl
    · first | (simp; done) | (simp; omega)
    · simp; omega

theorem read_any (ev kv : Value) (l : List Tm) (kinds : List Int) (hl : l.length ≤ 1000) (E : Ex) : E.ok → (∀ t ∈ E.fl, argB kinds.length t = true) → ReadsAt ev kv l kinds E := by
  induction E with
  | lf t => intro h ha; exact read_leaf ev kv l kinds t hl h (ha t (by simp [Ex.fl]))
  | un t a iha => intro h ha; exact read_un ev kv l kinds t a hl h.1 (iha h.2 fun t ht => ha t (by simp [Ex.fl, ht]))
  | bi t a b iha ihb => intro h ha; exact read_bi ev kv l kinds t a b hl h.1 (iha h.2.1 fun t ht => ha t (by simp [Ex.fl, ht])) (ihb h.2.2 fun t ht => ha t (by simp [Ex.fl, ht]))
  | tr t a b c iha ihb ihc => intro h ha; exact read_tr ev kv l kinds t a b c hl h.1 (iha h.2.1 fun t ht => ha t (by simp [Ex.fl, ht])) (ihb h.2.2.1 fun t ht => ha t (by simp [Ex.fl, ht])) (ihc h.2.2.2 fun t ht => ha t (by simp [Ex.fl, ht]))
end Go.Proofs.YtmlkdoimkdbdpaaGreatDoor
set_option maxRecDepth 100000
namespace Go.Proofs.YtmlkdoimkdbdpaaGreatDoor
open Go.RowKit

theorem end_fl {l : List Tm} {q : Nat} {X : Ex} {r : List Tm} (h : l.drop q = X.fl ++ r) (ho : X.ok) : endR 1 q l = ((q + X.fl.length : Nat) : Int) := by
  unfold endR
  rw [h, endN_fl X ho 0 r, endN_zero]
  simp
theorem drop_next {l : List Tm} {q : Nat} {X : Ex} {r : List Tm} (h : l.drop q = X.fl ++ r) : l.drop (q + X.fl.length) = r := by
  rw [← List.drop_drop, h, List.drop_append_of_le_length (Nat.le_refl _), List.drop_length, List.nil_append]

set_option maxHeartbeats 2000000 in
theorem roperand1 (v : Value) (l : List Tm) (p : Nat) (E A : Ex) (t : Tm) (r r1 : List Tm) (w : World) (hl : l.length ≤ 1000) (hv : Hid (ycu w v l)) (hE : Hid (l.drop p = E.fl ++ r)) (ho : Hid E.ok) (hA : Hid (l.drop p = t :: (A.fl ++ r1))) (hoA : Hid A.ok) (har : 2 ≤ ar t.1) :
    Calls Tryz.prog 137 #[v, .int .i64 p, .int .i64 1] w fun e w' => e = .returned (.int .i64 ((p + 1 + A.fl.length : Nat) : Int)) ∧ w = w' := by
  obtain ⟨hp, hpt, hd1⟩ := drop_get hA.out
  obtain ⟨a0, cap0, rfl, h1, h2, h3⟩ := hv.out.open
  obtain ⟨g, o, rfl, hg, hc⟩ := h3 (by omega)
  obtain ⟨c0, c1⟩ := hc p t hpt
  have HE1 := Lib.hid (end_fl hE.out ho.out)
  have HE2 := Lib.hid (end_fl hd1 hoA.out)
  have hb := ar_bd t.1
  have hb2 := hb.2
  clear hc h3 hpt hd1 hb
  go_enter Tryz.func137, Tryz.ntmps137
  go_wp2_with fail
  refine (rend_at _ l p _ hl hv (by omega)).mono ?_
  rintro e w' ⟨rfl, rfl⟩
  rw [HE1.out]
  go_wp2_with (go_at_call 132; refine (ydt _ _).mono ?_; rintro e w' ⟨rfl, rfl⟩)
  refine wp_loop_rounds 2 ?_
  rw [rounds_succ]
  go_wp2_with fail
  rw [show ((p : Int) + 1) = ((p + 1 : Nat) : Int) by omega]
  refine (rend_at _ l (p + 1) _ hl hv (by omega)).mono ?_
  rintro e w' ⟨rfl, rfl⟩
  rw [HE2.out]
  go_wp2_with fail
  rw [rounds_succ]
  go_wp2_with fail
  go_ret
  exact ⟨rfl, rfl⟩
set_option maxHeartbeats 2000000 in
theorem roperand2 (v : Value) (l : List Tm) (p : Nat) (E A B : Ex) (t : Tm) (r r1 : List Tm) (w : World) (hl : l.length ≤ 1000) (hv : Hid (ycu w v l)) (hE : Hid (l.drop p = E.fl ++ r)) (ho : Hid E.ok) (hA : Hid (l.drop p = t :: (A.fl ++ (B.fl ++ r1)))) (hoA : Hid A.ok) (hoB : Hid B.ok) (har : 3 ≤ ar t.1) :
    Calls Tryz.prog 137 #[v, .int .i64 p, .int .i64 2] w fun e w' => e = .returned (.int .i64 ((p + 1 + A.fl.length + B.fl.length : Nat) : Int)) ∧ w = w' := by
  obtain ⟨hp, hpt, hd1⟩ := drop_get hA.out
  obtain ⟨a0, cap0, rfl, h1, h2, h3⟩ := hv.out.open
  obtain ⟨g, o, rfl, hg, hc⟩ := h3 (by omega)
  obtain ⟨c0, c1⟩ := hc p t hpt
  have HE1 := Lib.hid (end_fl hE.out ho.out)
  have HE2 := Lib.hid (end_fl hd1 hoA.out)
  have hd2 := drop_next hd1
  have HE3 := Lib.hid (end_fl hd2 hoB.out)
  have hq : p + 1 + A.fl.length ≤ l.length := by
    have h5 := congrArg List.length hA.out
    rw [List.length_drop] at h5
    simp at h5
    omega
  have hb := ar_bd t.1
  have hb2 := hb.2
  clear hc h3 hpt hd1 hd2 hb
  go_enter Tryz.func137, Tryz.ntmps137
  go_wp2_with fail
  refine (rend_at _ l p _ hl hv (by omega)).mono ?_
  rintro e w' ⟨rfl, rfl⟩
  rw [HE1.out]
  go_wp2_with (go_at_call 132; refine (ydt _ _).mono ?_; rintro e w' ⟨rfl, rfl⟩)
  refine wp_loop_rounds 3 ?_
  rw [rounds_succ]
  go_wp2_with fail
  rw [show ((p : Int) + 1) = ((p + 1 : Nat) : Int) by omega]
  refine (rend_at _ l (p + 1) _ hl hv (by omega)).mono ?_
  rintro e w' ⟨rfl, rfl⟩
  rw [HE2.out]
  generalize hqe : p + 1 + A.fl.length = q at *
  have HQ := Lib.hid hqe
  clear hqe
  go_wp2_with fail
  rw [rounds_succ]
  go_wp2_with fail
  refine (rend_at _ l q _ hl hv (by omega)).mono ?_
  rintro e w' ⟨rfl, rfl⟩
  rw [HE3.out]
  go_wp2_with fail
  rw [rounds_succ]
  go_wp2_with fail
  go_ret
  exact ⟨ybh (by have := HQ.out; simp; omega), rfl⟩
end Go.Proofs.YtmlkdoimkdbdpaaGreatDoor
set_option maxRecDepth 100000
namespace Go.Proofs.YtmlkdoimkdbdpaaGreatDoor
open Go.RowKit

def KindRet (kinds : List Int) (bound : Bool) (E : Ex) (w : World) (e : Ending) (w' : World) : Prop :=
  e = .returned (.int .i64 (ty kinds bound E)) ∧ Below w.heap.size w w'
def KindsAt (ev kv : Value) (l : List Tm) (kinds : List Int) (E : Ex) : Prop :=
  ∀ (p : Nat) (r : List Tm) (bound : Bool) (w : World), l.drop p = E.fl ++ r → ycu w ev l → Ints .i64 w kv kinds →
    Calls Tryz.prog 106 #[ev, .int .i64 p, kv, .bool bound] w (KindRet kinds bound E w)

theorem rleaf_ty (kv : Value) (kinds : List Int) (op x : Int) (bound : Bool) (w : World) (hk : Hid (Ints .i64 w kv kinds)) (h1 : 1 ≤ op) (h2 : op ≤ 17) (hx : op = 5 ∨ op = 12 → 0 ≤ x ∧ x < kinds.length) :
    Calls Tryz.prog 133 #[.agg #[.int .i64 op, .int .i64 x], kv, .bool bound] w fun e w' => e = .returned (.int .i64 (ty kinds bound (.lf (op, x)))) ∧ Below w.heap.size w w' :=
  (rleaf_any kv kinds op x bound w hk h1 h2 hx).mono fun e w' ⟨he, hb⟩ => ⟨by rw [he]; rfl, hb⟩
set_option maxHeartbeats 1000000 in
theorem kind_leaf (ev kv : Value) (l : List Tm) (kinds : List Int) (t : Tm) (hl : l.length ≤ 1000) (h0 : ar t.1 = 0) (ha : Hid (argB kinds.length t = true)) : KindsAt ev kv l kinds (.lf t) := by
  intro p r bound w hd ht hk
  obtain ⟨a0, cap0, rfl, h1, h2, h3⟩ := ht.open
  obtain ⟨hp, hpt, _⟩ := drop_get hd
  obtain ⟨g, o, rfl, hg, hc⟩ := h3 (by omega)
  obtain ⟨c0, c1⟩ := hc p t hpt
  obtain ⟨h11, h17⟩ := ar_zero h0
  have HK := Lib.hid hk
  have hz : (ar t.1 == 0) = true := by rw [h0]; rfl
  clear hc h3 hpt hd ht hk h0
  obtain ⟨op, x⟩ := t
  simp only at *
  go_enter Tryz.func106, Tryz.ntmps106
  go_wp2_with (first | (go_at_call 132; refine (ydt _ _).mono ?_; rintro e w' ⟨rfl, rfl⟩) | (go_at_call 133; refine (rleaf_ty _ kinds op x bound _ HK h11 h17 (arg_leaf ha.out)).mono ?_; rintro e w1 ⟨rfl, hb1⟩))
  go_ret
  exact ⟨rfl, hb1⟩

set_option maxHeartbeats 2000000 in
theorem kind_un (ev kv : Value) (l : List Tm) (kinds : List Int) (t : Tm) (A : Ex) (hl : l.length ≤ 1000) (h0 : ar t.1 = 1) (ihA : KindsAt ev kv l kinds A) : KindsAt ev kv l kinds (.un t A) := by
  intro p r bound w hd ht hk
  obtain ⟨a0, cap0, rfl, h1, h2, h3⟩ := ht.open
  simp only [Ex.fl, List.cons_append] at hd
  obtain ⟨hp, hpt, hd1⟩ := drop_get hd
  obtain ⟨g, o, rfl, hg, hc⟩ := h3 (by omega)
  obtain ⟨c0, c1⟩ := hc p t hpt
  obtain ⟨h18, h29⟩ := ar_one h0
  have HT := Lib.hid ht
  have HK := Lib.hid hk
  have HD1 := Lib.hid hd1
  have HIA := Lib.hid ihA
  have HR : Hid (ty kinds bound (.un t A) = ty1 t.1 (ty kinds (bound || aggB t.1) A)) := rfl
  have hz : (ar t.1 == 0) = false := by rw [h0]; rfl
  have hz1 : (ar t.1 == 1) = true := by rw [h0]; rfl
  have hpl : p + 1 ≤ 1000 := by omega
  clear hc h3 hpt hd ht hk hd1 ihA h0
  obtain ⟨op, x⟩ := t
  simp only at *
  rcases Bool.eq_false_or_eq_true (aggB op) with hn | hn <;> cases bound
  all_goals
    simp only [hn, Bool.or_true, Bool.or_false] at HR
    go_enter Tryz.func106, Tryz.ntmps106
    go_wp2_with (first | (go_at_call 132; refine (ydt _ _).mono ?_; rintro e w' ⟨rfl, rfl⟩) | (go_at_call 135; refine (raggregate_any _ _).mono ?_; rintro e w' ⟨rfl, rfl⟩))
    rw [show ((p : Int) + 1) = ((p + 1 : Nat) : Int) by omega]
    refine (HIA.out (p + 1) r _ _ HD1.out HT.out HK.out).mono ?_
    rintro e w1 ⟨rfl, hb1⟩
    generalize ty kinds _ A = ta at *
    go_wp2_with (first | (go_at_call 134; refine (rsingle_any _ _ _ (by omega) (by omega)).mono ?_; rintro e w2 ⟨rfl, rfl⟩))
    go_ret
    exact ⟨ybh HR.out.symm, hb1⟩

set_option maxHeartbeats 4000000 in
theorem kind_bi (ev kv : Value) (l : List Tm) (kinds : List Int) (t : Tm) (A B : Ex) (hl : l.length ≤ 1000) (h0 : ar t.1 = 2) (hoA : A.ok) (hoB : B.ok) (ihA : KindsAt ev kv l kinds A) (ihB : KindsAt ev kv l kinds B) : KindsAt ev kv l kinds (.bi t A B) := by
  intro p r bound w hd ht hk
  obtain ⟨a0, cap0, rfl, h1, h2, h3⟩ := ht.open
  have HE := Lib.hid hd
  have HO : Hid (Ex.bi t A B).ok := ⟨h0, hoA, hoB⟩
  have HOA := Lib.hid hoA
  simp only [Ex.fl, List.cons_append, List.append_assoc] at hd
  have HA := Lib.hid hd
  obtain ⟨hp, hpt, hd1⟩ := drop_get hd
  obtain ⟨g, o, rfl, hg, hc⟩ := h3 (by omega)
  obtain ⟨c0, c1⟩ := hc p t hpt
  obtain ⟨h30, h42⟩ := ar_two h0
  have HT := Lib.hid ht
  have HK := Lib.hid hk
  have HDA := Lib.hid hd1
  have HDB := Lib.hid (drop_next hd1)
  have HIA := Lib.hid ihA
  have HIB := Lib.hid ihB
  have HR : Hid (ty kinds bound (.bi t A B) = ty2 t.1 (ty kinds bound A) (ty kinds bound B)) := rfl
  have hz : (ar t.1 == 0) = false := by rw [h0]; rfl
  have hz1 : (ar t.1 == 1) = false := by rw [h0]; rfl
  have hz2 : (ar t.1 == 2) = true := by rw [h0]; rfl
  have hge : 2 ≤ ar t.1 := by omega
  clear hc h3 hpt hd ht hk hd1 ihA ihB h0 hoA hoB
  go_enter Tryz.func106, Tryz.ntmps106
  go_wp2_with (go_at_call 132; refine (ydt _ _).mono ?_; rintro e w' ⟨rfl, rfl⟩)
  rw [show ((p : Int) + 1) = ((p + 1 : Nat) : Int) by omega]
  refine (HIA.out (p + 1) _ _ _ HDA.out HT.out HK.out).mono ?_
  rintro e w1 ⟨rfl, hb1⟩
  generalize ty kinds bound A = ta at *
  go_wp2_with fail
  refine (roperand1 _ l p (.bi t A B) A t r _ _ hl (by exact HT.out.below hb1) HE HO HA HOA hge).mono ?_
  rintro e w2 ⟨rfl, rfl⟩
  generalize p + 1 + A.fl.length = q1 at *
  go_wp2_with fail
  refine (HIB.out q1 _ _ _ HDB.out (HT.out.below hb1) (HK.out.below hb1)).mono ?_
  rintro e w3 ⟨rfl, hb3⟩
  generalize ty kinds bound B = tb at *
  go_wp2_with (first | (go_at_call 136; refine (rdouble_any _ _ _ _ (by omega) (by omega)).mono ?_; rintro e w2 ⟨rfl, rfl⟩))
  go_ret
  exact ⟨ybh HR.out.symm, ydn hb1 hb3⟩

set_option maxHeartbeats 4000000 in
theorem kind_tr (ev kv : Value) (l : List Tm) (kinds : List Int) (t : Tm) (A B C : Ex) (hl : l.length ≤ 1000) (h0 : ar t.1 = 3) (hoA : A.ok) (hoB : B.ok) (hoC : C.ok) (ihA : KindsAt ev kv l kinds A) (ihB : KindsAt ev kv l kinds B) (ihC : KindsAt ev kv l kinds C) : KindsAt ev kv l kinds (.tr t A B C) := by
  intro p r bound w hd ht hk
  obtain ⟨a0, cap0, rfl, h1, h2, h3⟩ := ht.open
  have HE := Lib.hid hd
  have HO : Hid (Ex.tr t A B C).ok := ⟨h0, hoA, hoB, hoC⟩
  have HOA := Lib.hid hoA
  have HOB := Lib.hid hoB
  simp only [Ex.fl, List.cons_append, List.append_assoc] at hd
  have HA := Lib.hid hd
  obtain ⟨hp, hpt, hd1⟩ := drop_get hd
  obtain ⟨g, o, rfl, hg, hc⟩ := h3 (by omega)
  obtain ⟨c0, c1⟩ := hc p t hpt
  have HT := Lib.hid ht
  have HK := Lib.hid hk
  have HDA := Lib.hid hd1
  have HDB := Lib.hid (drop_next hd1)
  have HDC := Lib.hid (drop_next (drop_next hd1))
  have HIA := Lib.hid ihA
  have HIB := Lib.hid ihB
  have HIC := Lib.hid ihC
  have HR : Hid (ty kinds bound (.tr t A B C) = ty3 (ty kinds bound A) (ty kinds bound B) (ty kinds bound C)) := rfl
  have hz : (ar t.1 == 0) = false := by rw [h0]; rfl
  have hz1 : (ar t.1 == 1) = false := by rw [h0]; rfl
  have hz2 : (ar t.1 == 2) = false := by rw [h0]; rfl
  have hge : 2 ≤ ar t.1 := by omega
  have hge3 : 3 ≤ ar t.1 := by omega
  clear hc h3 hpt hd ht hk hd1 ihA ihB h0 hoA hoB hoC ihC
  go_enter Tryz.func106, Tryz.ntmps106
  go_wp2_with (go_at_call 132; refine (ydt _ _).mono ?_; rintro e w' ⟨rfl, rfl⟩)
  rw [show ((p : Int) + 1) = ((p + 1 : Nat) : Int) by omega]
  refine (HIA.out (p + 1) _ _ _ HDA.out HT.out HK.out).mono ?_
  rintro e w1 ⟨rfl, hb1⟩
  generalize ty kinds bound A = ta at *
  go_wp2_with fail
  refine (roperand1 _ l p (.tr t A B C) A t r _ _ hl (by exact HT.out.below hb1) HE HO HA HOA hge).mono ?_
  rintro e w2 ⟨rfl, rfl⟩
  go_wp2_with fail
  refine (HIB.out (p + 1 + A.fl.length) _ _ _ HDB.out (HT.out.below hb1) (HK.out.below hb1)).mono ?_
  rintro e w3 ⟨rfl, hb3⟩
  have hb13 := ydn hb1 hb3
  generalize ty kinds bound B = tb at *
  go_wp2_with fail
  refine (roperand2 _ l p (.tr t A B C) A B t r _ _ hl (by exact HT.out.below hb13) HE HO HA HOA HOB hge3).mono ?_
  rintro e w4 ⟨rfl, rfl⟩
  generalize p + 1 + A.fl.length + B.fl.length = q2 at *
  go_wp2_with fail
  refine (HIC.out q2 _ _ _ HDC.out (HT.out.below hb13) (HK.out.below hb13)).mono ?_
  rintro e w5 ⟨rfl, hb5⟩
  generalize ty kinds bound C = tc at *
  by_cases q : ta = 2
  · have q' : (ta != 2) = false := by simp [q]
    have Q := Lib.hid q
    clear q
    go_wp2_with fail
    all_goals go_ret
    all_goals refine ⟨ybh ?_, ydn hb13 hb5⟩
    all_goals (rw [HR.out]; simp [ty3, Q.out]; first | done | (simp at *; omega))
  · have q' : (ta != 2) = true := by simp [q]
    go_wp2_with fail
    go_ret
    refine ⟨ybh ?_, ydn hb13 hb5⟩
    rw [HR.out]; simp [ty3, q]

theorem kind_any (ev kv : Value) (l : List Tm) (kinds : List Int) (hl : l.length ≤ 1000) (E : Ex) : E.ok → (∀ t ∈ E.fl, argB kinds.length t = true) → KindsAt ev kv l kinds E := by
  induction E with
  | lf t => intro h ha; exact kind_leaf ev kv l kinds t hl h (ha t (by simp [Ex.fl]))
  | un t a iha => intro h ha; exact kind_un ev kv l kinds t a hl h.1 (iha h.2 fun t ht => ha t (by simp [Ex.fl, ht]))
  | bi t a b iha ihb => intro h ha; exact kind_bi ev kv l kinds t a b hl h.1 h.2.1 h.2.2 (iha h.2.1 fun t ht => ha t (by simp [Ex.fl, ht])) (ihb h.2.2 fun t ht => ha t (by simp [Ex.fl, ht]))
  | tr t a b c iha ihb ihc => intro h ha; exact kind_tr ev kv l kinds t a b c hl h.1 h.2.1 h.2.2.1 h.2.2.2 (iha h.2.1 fun t ht => ha t (by simp [Ex.fl, ht])) (ihb h.2.2.1 fun t ht => ha t (by simp [Ex.fl, ht])) (ihc h.2.2.2 fun t ht => ha t (by simp [Ex.fl, ht]))
end Go.Proofs.YtmlkdoimkdbdpaaGreatDoor
set_option maxRecDepth 100000
namespace Go.Proofs.YtmlkdoimkdbdpaaGreatDoor
open Go.RowKit

theorem read0 (ev kv : Value) (l : List Tm) (kinds : List Int) (bound : Bool) (E : Ex) (w : World) (hl : l.length ≤ 1000) (ho : Hid E.ok) (ha : Hid (∀ t ∈ l, argB kinds.length t = true)) (hf : Hid (E.fl = l)) (ht : ycu w ev l) (hk : Ints .i64 w kv kinds) :
    Calls Tryz.prog 119 #[.agg #[ev, kv], .int .i64 0, .bool bound] w fun e w' => e = .returned (.tuple #[.int .i64 (ty kinds bound E), .int .i64 l.length]) ∧ Below w.heap.size w w' :=
  (read_any ev kv l kinds hl E ho.out (by rw [hf.out]; exact ha.out) 0 [] bound w (by simp [hf.out]) ht hk).mono fun e w' ⟨he, hb⟩ => ⟨by rw [he, Nat.zero_add, hf.out], hb⟩
theorem kind0 (ev kv : Value) (l : List Tm) (kinds : List Int) (bound : Bool) (E : Ex) (w : World) (hl : l.length ≤ 1000) (ho : Hid E.ok) (ha : Hid (∀ t ∈ l, argB kinds.length t = true)) (hf : Hid (E.fl = l)) (ht : ycu w ev l) (hk : Ints .i64 w kv kinds) :
    Calls Tryz.prog 106 #[ev, .int .i64 0, kv, .bool bound] w fun e w' => e = .returned (.int .i64 (ty kinds bound E)) ∧ Below w.heap.size w w' :=
  (kind_any ev kv l kinds hl E ho.out (by rw [hf.out]; exact ha.out) 0 [] bound w (by simp [hf.out]) ht hk)

theorem kindsB_bad {kinds : List Int} (k : Nat) (hk : k < kinds.length) (h : kindB kinds[k] = false) : kindsB kinds = false := by
  unfold kindsB
  rw [List.all_eq_false]
  exact ⟨kinds[k], List.getElem_mem hk, by unfold kindB at h; simp [h]⟩
theorem kindsB_step {kinds : List Int} (k : Nat) (hk : k < kinds.length) (h : kindsB (kinds.take k) = true) (hw : kindB kinds[k] = true) : kindsB (kinds.take (k + 1)) = true := by
  rw [List.take_succ_eq_append_getElem hk]
  unfold kindsB at *
  rw [List.all_append, h]
  unfold kindB at hw
  simpa using hw

def OfRet (l : List Tm) (kinds : List Int) (bound : Bool) (w : World) (e : Ending) (w' : World) : Prop :=
  e = .returned (.tuple #[.int .i64 (ofF l kinds bound).1, .int .i64 (ofF l kinds bound).2]) ∧ Below w.heap.size w w'
theorem of_end {l : List Tm} {kinds : List Int} {bound : Bool} {w w' : World} {a b : Int} (h : ofF l kinds bound = (a, b)) (hb : Below w.heap.size w w') : OfRet l kinds bound w (.returned (.tuple #[.int .i64 a, .int .i64 b])) w' := by
  unfold OfRet; rw [h]; exact ⟨rfl, hb⟩

set_option maxHeartbeats 4000000 in
theorem of_any (ev kv : Value) (l : List Tm) (kinds : List Int) (bound : Bool) (w : World) (hl : l.length ≤ 1000) (hv : Hid (ycu w ev l)) (hk : Hid (Ints .i64 w kv kinds)) :
    Calls Tryz.prog 98 #[ev, kv, .bool bound] w (OfRet l kinds bound w) := by
  obtain ⟨a0, cap0, rfl, i1, i2, i3, i4⟩ := hk.out.open
  have HC := Lib.hid i4
  obtain ⟨a1, cap1, rfl, _, _, j3⟩ := hv.out.open
  clear i3 i4 j3
  by_cases h6 : 6 < kinds.length
  · have H := Lib.hid (ofF_many l kinds bound h6)
    go_enter Tryz.func98, Tryz.ntmps98
    go_wp2_with fail
    go_ret2
    exact of_end H.out (Below.refl _ _)
  have b6 : decide (6 < kinds.length) = false := by simp; omega
  have b6' : decide (6 < (kinds.length : Int)) = false := by simp; omega
  cases hval : ydc l kinds.length with
  | false =>
    have H := Lib.hid (ofF_invalid l kinds bound hval)
    go_enter Tryz.func98, Tryz.ntmps98
    go_wp2_with fail
    go_loop [9, 18] (fun _ i => ∃ k : Nat, k ≤ kinds.length ∧ i = .int .i64 k) (fun _ i => kinds.length - (intOf i).toNat)
    case atStart => exact ⟨0, by omega, rfl⟩
    case round =>
      obtain ⟨k, hkl, rfl⟩ := hrel
      by_cases hlt : k < kinds.length
      · obtain ⟨g, o, rfl, hg, hc⟩ := HC.out (by omega)
        have c0 := hc k _ (List.getElem?_eq_getElem hlt)
        clear hc
        rcases Bool.eq_false_or_eq_true (kindB kinds[k]) with hw | hw
        · go_wp2_with (go_at_call 95; refine (yct _ _).mono ?_; rintro e w1 ⟨rfl, rfl⟩)
          exact ⟨⟨k + 1, by omega, by go_num⟩, by simp [intOf]; omega⟩
        · go_wp2_with (go_at_call 95; refine (yct _ _).mono ?_; rintro e w1 ⟨rfl, rfl⟩)
          go_ret2
          exact of_end H.out (Below.refl _ _)
      · go_wp2_with (go_at_call 97; refine (valid_any _ l _ _ hl hv).mono ?_; rintro e w1 ⟨rfl, hb1⟩)
        go_ret2
        exact of_end H.out hb1
  | true =>
    obtain ⟨E, hp, ho, hf, hlen, harg, _, _⟩ := valid_parse hval
    have HO := Lib.hid ho
    have HF := Lib.hid hf
    have HA := Lib.hid (List.all_eq_true.1 harg)
    have HP := Lib.hid hp
    have HV := Lib.hid hval
    clear ho hf harg hp
    go_enter Tryz.func98, Tryz.ntmps98
    go_wp2_with fail
    go_loop [9, 18] (fun _ i => ∃ k : Nat, k ≤ kinds.length ∧ i = .int .i64 k ∧ Hid (kindsB (kinds.take k) = true)) (fun _ i => kinds.length - (intOf i).toNat)
    case atStart => exact ⟨0, by omega, rfl, rfl⟩
    case round =>
      obtain ⟨k, hkl, rfl, hall⟩ := hrel
      by_cases hlt : k < kinds.length
      · obtain ⟨g, o, rfl, hg, hc⟩ := HC.out (by omega)
        have c0 := hc k _ (List.getElem?_eq_getElem hlt)
        clear hc
        rcases Bool.eq_false_or_eq_true (kindB kinds[k]) with hw | hw
        · have HN := Lib.hid (kindsB_step k hlt hall.out hw)
          go_wp2_with (go_at_call 95; refine (yct _ _).mono ?_; rintro e w1 ⟨rfl, rfl⟩)
          exact ⟨⟨k + 1, by omega, by go_num, HN⟩, by simp [intOf]; omega⟩
        · have HN := Lib.hid (ofF_kinds l kinds bound (kindsB_bad k hlt hw))
          go_wp2_with (go_at_call 95; refine (yct _ _).mono ?_; rintro e w1 ⟨rfl, rfl⟩)
          go_ret2
          exact of_end HN.out (Below.refl _ _)
      · have hkk := hall.out
        rw [List.take_of_length_le (by omega)] at hkk
        have HN := Lib.hid (ofF_ok l kinds bound E h6 hkk HV.out HP.out)
        clear hkk
        by_cases hz : ty kinds bound E = 0
        · have hz' : (ty kinds bound E == 0) = true := by simp [hz]
          have HZ := Lib.hid hz
          clear hz
          go_wp2_with (go_at_call 97; refine (valid_any _ l _ _ hl hv).mono ?_; rintro e w1 ⟨rfl, hb1⟩)
          refine (read0 _ _ l kinds bound E _ hl HO HA HF (by exact hv.out.below (hb1.alloc (by have := hb1.size; omega) _)) (by exact hk.out.below (hb1.alloc (by have := hb1.size; omega) _))).mono ?_
          rintro e w2 ⟨rfl, hb2⟩
          have hs1 := hb1.size
          go_wp2_with fail
          go_ret2
          exact of_end (by rw [HN.out, if_pos HZ.out]) ((hb1.alloc hs1 _).trans (hb2.mono (by simp; omega)))
        · have hz' : (ty kinds bound E == 0) = false := by simp [hz]
          go_wp2_with (go_at_call 97; refine (valid_any _ l _ _ hl hv).mono ?_; rintro e w1 ⟨rfl, hb1⟩)
          refine (read0 _ _ l kinds bound E _ hl HO HA HF (by exact hv.out.below (hb1.alloc (by have := hb1.size; omega) _)) (by exact hk.out.below (hb1.alloc (by have := hb1.size; omega) _))).mono ?_
          rintro e w2 ⟨rfl, hb2⟩
          have hs1 := hb1.size
          go_wp2_with fail
          go_ret2
          exact of_end (by rw [HN.out, if_neg hz]) ((hb1.alloc hs1 _).trans (hb2.mono (by simp; omega)))

end Go.Proofs.YtmlkdoimkdbdpaaGreatDoor
set_option maxRecDepth 100000
namespace Go.Proofs.YtmlkdoimkdbdpaaGreatDoor
open Go.RowKit

theorem of_is (ev kv : Value) (l : List Tm) (kinds : List Int) (bound : Bool) (a b : Int) (w : World) (hl : l.length ≤ 1000) (hv : ycu w ev l) (hk : Ints .i64 w kv kinds) (h : ofF l kinds bound = (a, b)) :
    Calls Tryz.prog 98 #[ev, kv, .bool bound] w fun e w' => e = .returned (.tuple #[.int .i64 a, .int .i64 b]) ∧ Below w.heap.size w w' :=
  (of_any ev kv l kinds bound w hl hv hk).mono fun e w' ⟨he, hb⟩ => ⟨by rw [he, h], hb⟩
theorem light_any (v : Value) (l : List Tm) (w : World) (hv : Hid (ycu w v l)) : Calls Tryz.prog 34 #[v] w fun e w' => e = .returned (.bool (decide (l.length ≤ 250))) ∧ w = w' := by
  obtain ⟨a0, cap0, rfl, h1, h2, h3⟩ := hv.out.open
  clear h3
  go_enter Tryz.func34, Tryz.ntmps34
  go_wp2
  go_ret
  exact ⟨yal (by simp; omega), rfl⟩

end Go.Proofs.YtmlkdoimkdbdpaaGreatDoor
set_option linter.unusedVariables false
set_option maxRecDepth 100000
namespace Go.Proofs.YtmlkdoimkdbdpaaGreatDoor
open Go.RowKit

def ycf (n lo hi : Int) : Bool := decide (lo ≤ n) && decide (n ≤ hi)
theorem ydu (n lo hi : Int) (w : World) : Calls Tryz.prog 96 #[.int .i64 n, .int .i64 lo, .int .i64 hi] w fun e w' => e = .returned (.bool (ycf n lo hi)) ∧ w = w' := by
  go_enter Tryz.func96, Tryz.ntmps96
  go_wp2
  all_goals go_ret
  all_goals exact ⟨yal (by rw [Bool.eq_iff_iff]; simp [ycf]; try omega), rfl⟩
theorem yeg (n lo hi : Int) (w : World) : Calls Tryz.prog 84 #[.int .i64 n, .int .i64 lo, .int .i64 hi] w fun e w' => e = .returned (.bool (ycf n lo hi)) ∧ w = w' := by
  go_enter Tryz.func84, Tryz.ntmps84
  go_wp2
  all_goals go_ret
  all_goals exact ⟨yal (by rw [Bool.eq_iff_iff]; simp [ycf]; try omega), rfl⟩
def numB (x : VarD) : Bool :=
  kindB x.kind && (if (x.kind != 1) = true then (x.lo == 0) && ((x.hi == 0) && ((x.perNode == 0) && (x.perID == 0))) else
    ycf x.lo 0 4096 && (ycf x.perNode 0 255 && (ycf x.perID 0 255 && (if ((x.perNode == 0) && (x.perID == 0)) = true then ycf x.hi 0 4096 else ((x.perNode == 0) || (x.perID == 0)) && ycf x.hi (-4096) 4096))))
theorem kind_one (k : Int) (h : (k != 1) = false) : kindB k = true := by
  simp at h; subst h; rfl

set_option maxHeartbeats 4000000 in
theorem numbers_any (x : VarD) (w : World) : Calls Tryz.prog 76 #[.agg #[.string x.name, .int .i64 x.kind, .int .i64 x.lo, .int .i64 x.hi, .int .i64 x.perNode, .int .i64 x.perID]] w fun e w' => e = .returned (.bool (numB x)) ∧ Below w.heap.size w w' := by
  obtain ⟨name, kind, lo, hi, pn, pi⟩ := x
  rcases Bool.eq_false_or_eq_true (kind != 1) with q1 | q1
  · rcases Bool.eq_false_or_eq_true (kindB kind) with q0 | q0
    · rcases Bool.eq_false_or_eq_true (lo == 0) with q2 | q2 <;> rcases Bool.eq_false_or_eq_true (hi == 0) with q3 | q3 <;> rcases Bool.eq_false_or_eq_true (pn == 0) with q4 | q4
      all_goals
        go_enter Tryz.func76, Tryz.ntmps76
        go_wp2_with (first | (go_at_call 95; refine (yct _ _).mono ?_; rintro e w1 ⟨rfl, rfl⟩) | (go_at_call 96; refine (ydu _ _ _ _).mono ?_; rintro e w1 ⟨rfl, rfl⟩))
        go_ret
        exact ⟨yal (by simp [numB, *]), (Below.refl _ _).alloc (Nat.le_refl _) _⟩
    ·
      go_enter Tryz.func76, Tryz.ntmps76
      go_wp2_with (first | (go_at_call 95; refine (yct _ _).mono ?_; rintro e w1 ⟨rfl, rfl⟩) | (go_at_call 96; refine (ydu _ _ _ _).mono ?_; rintro e w1 ⟨rfl, rfl⟩))
      go_ret
      exact ⟨yal (by simp [numB, *]), (Below.refl _ _).alloc (Nat.le_refl _) _⟩
  · have q0 := kind_one kind q1
    rcases Bool.eq_false_or_eq_true (ycf lo 0 4096) with q2 | q2
    · rcases Bool.eq_false_or_eq_true (ycf pn 0 255) with q3 | q3
      · rcases Bool.eq_false_or_eq_true (ycf pi 0 255) with q4 | q4
        · rcases Bool.eq_false_or_eq_true (pn == 0) with q5 | q5 <;> rcases Bool.eq_false_or_eq_true (pi == 0) with q6 | q6
          all_goals have q7 : (pn != 0) = !(pn == 0) := rfl
          all_goals have q8 : (pi != 0) = !(pi == 0) := rfl
          all_goals simp only [q5, q6, Bool.not_true, Bool.not_false] at q7 q8
          all_goals
            go_enter Tryz.func76, Tryz.ntmps76
            go_wp2_with (first | (go_at_call 95; refine (yct _ _).mono ?_; rintro e w1 ⟨rfl, rfl⟩) | (go_at_call 96; refine (ydu _ _ _ _).mono ?_; rintro e w1 ⟨rfl, rfl⟩))
            go_ret
            exact ⟨yal (by simp [numB, *]), (Below.refl _ _).alloc (Nat.le_refl _) _⟩
        ·
          go_enter Tryz.func76, Tryz.ntmps76
          go_wp2_with (first | (go_at_call 95; refine (yct _ _).mono ?_; rintro e w1 ⟨rfl, rfl⟩) | (go_at_call 96; refine (ydu _ _ _ _).mono ?_; rintro e w1 ⟨rfl, rfl⟩))
          go_ret
          exact ⟨yal (by simp [numB, *]), (Below.refl _ _).alloc (Nat.le_refl _) _⟩
      ·
        go_enter Tryz.func76, Tryz.ntmps76
        go_wp2_with (first | (go_at_call 95; refine (yct _ _).mono ?_; rintro e w1 ⟨rfl, rfl⟩) | (go_at_call 96; refine (ydu _ _ _ _).mono ?_; rintro e w1 ⟨rfl, rfl⟩))
        go_ret
        exact ⟨yal (by simp [numB, *]), (Below.refl _ _).alloc (Nat.le_refl _) _⟩
    ·
      go_enter Tryz.func76, Tryz.ntmps76
      go_wp2_with (first | (go_at_call 95; refine (yct _ _).mono ?_; rintro e w1 ⟨rfl, rfl⟩) | (go_at_call 96; refine (ydu _ _ _ _).mono ?_; rintro e w1 ⟨rfl, rfl⟩))
      go_ret
      exact ⟨yal (by simp [numB, *]), (Below.refl _ _).alloc (Nat.le_refl _) _⟩

set_option maxHeartbeats 4000000 in
theorem rnumbers_any (x : VarD) (w : World) : Calls Tryz.prog 86 #[.agg #[.string x.name, .int .i64 x.kind, .int .i64 x.lo, .int .i64 x.hi, .int .i64 x.perNode, .int .i64 x.perID]] w fun e w' => e = .returned (.bool (numB x)) ∧ Below w.heap.size w w' := by
  obtain ⟨name, kind, lo, hi, pn, pi⟩ := x
  rcases Bool.eq_false_or_eq_true (kind != 1) with q1 | q1
  · rcases Bool.eq_false_or_eq_true (kindB kind) with q0 | q0
    · rcases Bool.eq_false_or_eq_true (lo == 0) with q2 | q2 <;> rcases Bool.eq_false_or_eq_true (hi == 0) with q3 | q3 <;> rcases Bool.eq_false_or_eq_true (pn == 0) with q4 | q4
      all_goals
        go_enter Tryz.func86, Tryz.ntmps86
        go_wp2_with (first | (go_at_call 104; refine (known_any _ _).mono ?_; rintro e w1 ⟨rfl, rfl⟩) | (go_at_call 84; refine (yeg _ _ _ _).mono ?_; rintro e w1 ⟨rfl, rfl⟩))
        go_ret
        exact ⟨yal (by simp [numB, *]), (Below.refl _ _).alloc (Nat.le_refl _) _⟩
    ·
      go_enter Tryz.func86, Tryz.ntmps86
      go_wp2_with (first | (go_at_call 104; refine (known_any _ _).mono ?_; rintro e w1 ⟨rfl, rfl⟩) | (go_at_call 84; refine (yeg _ _ _ _).mono ?_; rintro e w1 ⟨rfl, rfl⟩))
      go_ret
      exact ⟨yal (by simp [numB, *]), (Below.refl _ _).alloc (Nat.le_refl _) _⟩
  · have q0 := kind_one kind q1
    rcases Bool.eq_false_or_eq_true (ycf lo 0 4096) with q2 | q2
    · rcases Bool.eq_false_or_eq_true (ycf pn 0 255) with q3 | q3
      · rcases Bool.eq_false_or_eq_true (ycf pi 0 255) with q4 | q4
        · rcases Bool.eq_false_or_eq_true (pn == 0) with q5 | q5 <;> rcases Bool.eq_false_or_eq_true (pi == 0) with q6 | q6
          all_goals have q7 : (pn != 0) = !(pn == 0) := rfl
          all_goals have q8 : (pi != 0) = !(pi == 0) := rfl
          all_goals simp only [q5, q6, Bool.not_true, Bool.not_false] at q7 q8
          all_goals
            go_enter Tryz.func86, Tryz.ntmps86
            go_wp2_with (first | (go_at_call 104; refine (known_any _ _).mono ?_; rintro e w1 ⟨rfl, rfl⟩) | (go_at_call 84; refine (yeg _ _ _ _).mono ?_; rintro e w1 ⟨rfl, rfl⟩))
            go_ret
            exact ⟨yal (by simp [numB, *]), (Below.refl _ _).alloc (Nat.le_refl _) _⟩
        ·
          go_enter Tryz.func86, Tryz.ntmps86
          go_wp2_with (first | (go_at_call 104; refine (known_any _ _).mono ?_; rintro e w1 ⟨rfl, rfl⟩) | (go_at_call 84; refine (yeg _ _ _ _).mono ?_; rintro e w1 ⟨rfl, rfl⟩))
          go_ret
          exact ⟨yal (by simp [numB, *]), (Below.refl _ _).alloc (Nat.le_refl _) _⟩
      ·
        go_enter Tryz.func86, Tryz.ntmps86
        go_wp2_with (first | (go_at_call 104; refine (known_any _ _).mono ?_; rintro e w1 ⟨rfl, rfl⟩) | (go_at_call 84; refine (yeg _ _ _ _).mono ?_; rintro e w1 ⟨rfl, rfl⟩))
        go_ret
        exact ⟨yal (by simp [numB, *]), (Below.refl _ _).alloc (Nat.le_refl _) _⟩
    ·
      go_enter Tryz.func86, Tryz.ntmps86
      go_wp2_with (first | (go_at_call 104; refine (known_any _ _).mono ?_; rintro e w1 ⟨rfl, rfl⟩) | (go_at_call 84; refine (yeg _ _ _ _).mono ?_; rintro e w1 ⟨rfl, rfl⟩))
      go_ret
      exact ⟨yal (by simp [numB, *]), (Below.refl _ _).alloc (Nat.le_refl _) _⟩

end Go.Proofs.YtmlkdoimkdbdpaaGreatDoor
namespace Go.Proofs.YtmlkdoimkdbdpaaGreatDoor
open Go.RowKit

def ybw (s : ByteArray) (k : Nat) : List UInt8 := s.data.toList.drop k
theorem bytesFrom_lt (s : ByteArray) (k : Nat) (h : k < s.size) : ybw s k = s[k] :: ybw s (k + 1) := by
  unfold ybw
  rw [List.drop_eq_getElem_cons (by simpa using h)]; rfl
theorem bytesFrom_ge (s : ByteArray) (k : Nat) (h : s.size ≤ k) : ybw s k = [] := by
  unfold ybw
  exact List.drop_eq_nil_of_le (by simpa using h)
theorem bytesFrom_length (s : ByteArray) (k : Nat) : (ybw s k).length = s.size - k := by
  unfold ybw; simp
def letterB (c : UInt8) : Bool := (97 ≤ c && c ≤ 122) || (65 ≤ c && c ≤ 90)
def digitB (c : UInt8) : Bool := 48 ≤ c && c ≤ 57
def wordB (c : UInt8) : Bool := letterB c || digitB c || c == 95

theorem take_snoc (s : ByteArray) (k : Nat) (h : k < s.size) : (ybw s 0).take (k + 1) = (ybw s 0).take k ++ [s[k]] := by
  unfold ybw
  rw [List.drop_zero, List.take_succ_eq_append_getElem (by simpa using h)]; rfl
theorem take_all (s : ByteArray) (k : Nat) (h : s.size ≤ k) : (ybw s 0).take k = ybw s 0 := by
  rw [List.take_of_length_le]; rw [bytesFrom_length]; omega
theorem mem_bytes (s : ByteArray) (k : Nat) (h : k < s.size) : s[k] ∈ ybw s 0 := by
  unfold ybw
  rw [List.drop_zero, Array.mem_toList_iff]
  exact Array.getElem_mem (xs := s.data) h
structure Tok where
  kind : Nat
  from_ : Nat
  to : Nat
  num : Nat

end Go.Proofs.YtmlkdoimkdbdpaaGreatDoor
set_option maxRecDepth 100000
namespace Go.Proofs.YtmlkdoimkdbdpaaGreatDoor
open Go.RowKit

set_option maxHeartbeats 400000 in
theorem letter_any (c : UInt8) (w : World) :
    Calls Tryz.prog 112 #[.int .u8 (c.toNat : Int)] w fun e w' => e = .returned (.bool (letterB c)) ∧ w = w' := by
  go_enter Tryz.func112, Tryz.ntmps112
  go_wp2
  all_goals go_ret
  all_goals exact ⟨yal (by rw [Bool.eq_iff_iff]; simp [letterB, UInt8.le_iff_toNat_le]; omega), rfl⟩

set_option maxHeartbeats 400000 in
theorem digit_any (c : UInt8) (w : World) :
    Calls Tryz.prog 140 #[.int .u8 (c.toNat : Int)] w fun e w' => e = .returned (.bool (digitB c)) ∧ w = w' := by
  go_enter Tryz.func140, Tryz.ntmps140
  go_wp2
  all_goals go_ret
  all_goals exact ⟨yal (by rw [Bool.eq_iff_iff]; simp [digitB, UInt8.le_iff_toNat_le]; omega), rfl⟩

set_option maxHeartbeats 400000 in
theorem inWord_any (c : UInt8) (w : World) :
    Calls Tryz.prog 113 #[.int .u8 (c.toNat : Int)] w fun e w' => e = .returned (.bool (wordB c)) ∧ w = w' := by
  go_enter Tryz.func113, Tryz.ntmps113
  cases h1 : letterB c <;> cases h2 : digitB c
  all_goals
    go_wp2_with (first | (go_at_call 112; refine (letter_any _ _).mono ?_; rintro e w' ⟨rfl, rfl⟩) | (go_at_call 140; refine (digit_any _ _).mono ?_; rintro e w' ⟨rfl, rfl⟩))
    go_ret
    exact ⟨yal (by rw [Bool.eq_iff_iff]; simp [wordB, h1, h2, ← UInt8.toNat_inj]; try omega), rfl⟩
set_option maxHeartbeats 400000 in
theorem rletter_any (c : UInt8) (w : World) :
    Calls Tryz.prog 125 #[.int .u8 (c.toNat : Int)] w fun e w' => e = .returned (.bool (letterB c)) ∧ w = w' := by
  go_enter Tryz.func125, Tryz.ntmps125
  go_wp2
  all_goals go_ret
  all_goals exact ⟨yal (by rw [Bool.eq_iff_iff]; simp [letterB, UInt8.le_iff_toNat_le]; omega), rfl⟩

set_option maxHeartbeats 400000 in
theorem rdigit_any (c : UInt8) (w : World) :
    Calls Tryz.prog 151 #[.int .u8 (c.toNat : Int)] w fun e w' => e = .returned (.bool (digitB c)) ∧ w = w' := by
  go_enter Tryz.func151, Tryz.ntmps151
  go_wp2
  all_goals go_ret
  all_goals exact ⟨yal (by rw [Bool.eq_iff_iff]; simp [digitB, UInt8.le_iff_toNat_le]; omega), rfl⟩

set_option maxHeartbeats 400000 in
theorem rinner_any (c : UInt8) (w : World) :
    Calls Tryz.prog 126 #[.int .u8 (c.toNat : Int)] w fun e w' => e = .returned (.bool (wordB c)) ∧ w = w' := by
  go_enter Tryz.func126, Tryz.ntmps126
  cases h1 : letterB c <;> cases h2 : digitB c
  all_goals
    go_wp2_with (first | (go_at_call 125; refine (rletter_any _ _).mono ?_; rintro e w' ⟨rfl, rfl⟩) | (go_at_call 151; refine (rdigit_any _ _).mono ?_; rintro e w' ⟨rfl, rfl⟩))
    go_ret
    exact ⟨yal (by rw [Bool.eq_iff_iff]; simp [wordB, h1, h2, ← UInt8.toNat_inj]; try omega), rfl⟩

end Go.Proofs.YtmlkdoimkdbdpaaGreatDoor
set_option linter.unusedVariables false
set_option maxRecDepth 100000
set_option maxHeartbeats 8000000
namespace Go.Proofs.YtmlkdoimkdbdpaaGreatDoor
open Go.RowKit
def resW : List (List UInt8) := [[112, 114, 111, 103, 114, 97, 109], [118, 97, 114], [114, 117, 108, 101], [98, 111, 111, 108], [112, 111, 114, 116], [116, 114, 117, 101], [102, 97, 108, 115, 101], [110, 111, 110, 101], [110], [105, 100, 115], [105, 100], [100, 101, 103], [114, 111, 111, 116], [113], [119, 101, 105, 103, 104, 116], [98, 97, 99, 107], [97, 108, 108], [115, 111, 109, 101], [99, 111, 117, 110, 116], [102, 105, 114, 115, 116], [109, 105, 110], [109, 97, 120], [115, 117, 109], [109, 101, 120], [115, 101, 99, 111, 110, 100], [104, 101, 97, 100]]
def resB (s : ByteArray) : Bool := resW.any (fun x => s.toList == x)
theorem resB_no (s : ByteArray) (q0 : (s.toList == [112, 114, 111, 103, 114, 97, 109]) = false) (q1 : (s.toList == [118, 97, 114]) = false) (q2 : (s.toList == [114, 117, 108, 101]) = false) (q3 : (s.toList == [98, 111, 111, 108]) = false) (q4 : (s.toList == [112, 111, 114, 116]) = false) (q5 : (s.toList == [116, 114, 117, 101]) = false) (q6 : (s.toList == [102, 97, 108, 115, 101]) = false) (q7 : (s.toList == [110, 111, 110, 101]) = false) (q8 : (s.toList == [110]) = false) (q9 : (s.toList == [105, 100, 115]) = false) (q10 : (s.toList == [105, 100]) = false) (q11 : (s.toList == [100, 101, 103]) = false) (q12 : (s.toList == [114, 111, 111, 116]) = false) (q13 : (s.toList == [113]) = false) (q14 : (s.toList == [119, 101, 105, 103, 104, 116]) = false) (q15 : (s.toList == [98, 97, 99, 107]) = false) (q16 : (s.toList == [97, 108, 108]) = false) (q17 : (s.toList == [115, 111, 109, 101]) = false) (q18 : (s.toList == [99, 111, 117, 110, 116]) = false) (q19 : (s.toList == [102, 105, 114, 115, 116]) = false) (q20 : (s.toList == [109, 105, 110]) = false) (q21 : (s.toList == [109, 97, 120]) = false) (q22 : (s.toList == [115, 117, 109]) = false) (q23 : (s.toList == [109, 101, 120]) = false) (q24 : (s.toList == [115, 101, 99, 111, 110, 100]) = false) (q25 : (s.toList == [104, 101, 97, 100]) = false) : resB s = false := by
  simp only [resB, resW, List.any_cons, List.any_nil, q0, q1, q2, q3, q4, q5, q6, q7, q8, q9, q10, q11, q12, q13, q14, q15, q16, q17, q18, q19, q20, q21, q22, q23, q24, q25, Bool.or_false]
theorem yay (s : ByteArray) (x : List UInt8) (hx : resW.contains x = true) (h : (s.toList == x) = true) : resB s = true := by
  unfold resB
  rw [List.any_eq_true]
  exact ⟨x, List.contains_iff_mem.1 hx, h⟩

set_option maxHeartbeats 4000000 in
def nameB (s : ByteArray) : Bool :=
  match ybw s 0 with
  | [] => false
  | c :: r => decide (s.size ≤ 24) && (letterB c && ((c :: r).all wordB && !resB s))
theorem nameB_empty (s : ByteArray) (h : s.size = 0) : nameB s = false := by
  unfold nameB; rw [bytesFrom_ge s 0 (by omega)]
theorem nameB_long (s : ByteArray) (h : 24 < s.size) : nameB s = false := by
  unfold nameB; rw [bytesFrom_lt s 0 (by omega)]; simp; omega
theorem nameB_letter (s : ByteArray) (h : 0 < s.size) (hl : letterB s[0] = false) : nameB s = false := by
  unfold nameB; rw [bytesFrom_lt s 0 h]; simp [hl]
theorem nameB_word (s : ByteArray) (k : Nat) (h : k < s.size) (hw : wordB s[k] = false) : nameB s = false := by
  have hm := mem_bytes s k h
  unfold nameB
  cases hb : ybw s 0 with
  | nil => rfl
  | cons c r =>
    rw [hb] at hm
    have : (c :: r).all wordB = false := by
      rw [List.all_eq_false]; exact ⟨s[k], hm, by simp [hw]⟩
    simp only [this, Bool.false_and, Bool.and_false]
theorem nameB_rest (s : ByteArray) (h : 0 < s.size) (h24 : s.size ≤ 24) (hl : letterB s[0] = true) (ha : ((ybw s 0).take s.size).all wordB = true) : nameB s = !resB s := by
  rw [take_all s _ (Nat.le_refl _)] at ha
  unfold nameB
  rw [bytesFrom_lt s 0 h] at *
  simp only [ha, hl, h24, decide_true, Bool.true_and]
theorem all_snoc (s : ByteArray) (k : Nat) (h : k < s.size) (ha : ((ybw s 0).take k).all wordB = true) (hw : wordB s[k] = true) : ((ybw s 0).take (k + 1)).all wordB = true := by
  rw [take_snoc s k h, List.all_append, ha]; simp [hw]

end Go.Proofs.YtmlkdoimkdbdpaaGreatDoor
set_option maxRecDepth 100000
namespace Go.Proofs.YtmlkdoimkdbdpaaGreatDoor
open Go.RowKit

theorem reserved_any (s : ByteArray) (w : World) :
    Calls Tryz.prog 114 #[.string s] w fun e w' => e = .returned (.bool (resB s)) ∧ w = w' := by
  rcases Bool.eq_false_or_eq_true (s.toList == [112, 114, 111, 103, 114, 97, 109]) with q0 | q0
  · have H := Lib.hid (yay s _ (by decide) q0)
    go_enter Tryz.func114, Tryz.ntmps114
    go_wp2
    go_ret
    exact ⟨yal H.out.symm, rfl⟩
  rcases Bool.eq_false_or_eq_true (s.toList == [118, 97, 114]) with q1 | q1
  · have H := Lib.hid (yay s _ (by decide) q1)
    go_enter Tryz.func114, Tryz.ntmps114
    go_wp2
    go_ret
    exact ⟨yal H.out.symm, rfl⟩
  rcases Bool.eq_false_or_eq_true (s.toList == [114, 117, 108, 101]) with q2 | q2
  · have H := Lib.hid (yay s _ (by decide) q2)
    go_enter Tryz.func114, Tryz.ntmps114
    go_wp2
    go_ret
    exact ⟨yal H.out.symm, rfl⟩
  rcases Bool.eq_false_or_eq_true (s.toList == [98, 111, 111, 108]) with q3 | q3
  · have H := Lib.hid (yay s _ (by decide) q3)
    go_enter Tryz.func114, Tryz.ntmps114
    go_wp2
    go_ret
    exact ⟨yal H.out.symm, rfl⟩
  rcases Bool.eq_false_or_eq_true (s.toList == [112, 111, 114, 116]) with q4 | q4
  · have H := Lib.hid (yay s _ (by decide) q4)
    go_enter Tryz.func114, Tryz.ntmps114
    go_wp2
    go_ret
    exact ⟨yal H.out.symm, rfl⟩
  rcases Bool.eq_false_or_eq_true (s.toList == [116, 114, 117, 101]) with q5 | q5
  · have H := Lib.hid (yay s _ (by decide) q5)
    go_enter Tryz.func114, Tryz.ntmps114
    go_wp2
    go_ret
    exact ⟨yal H.out.symm, rfl⟩
  rcases Bool.eq_false_or_eq_true (s.toList == [102, 97, 108, 115, 101]) with q6 | q6
  · have H := Lib.hid (yay s _ (by decide) q6)
    go_enter Tryz.func114, Tryz.ntmps114
    go_wp2
    go_ret
    exact ⟨yal H.out.symm, rfl⟩
  rcases Bool.eq_false_or_eq_true (s.toList == [110, 111, 110, 101]) with q7 | q7
  · have H := Lib.hid (yay s _ (by decide) q7)
    go_enter Tryz.func114, Tryz.ntmps114
    go_wp2
    go_ret
    exact ⟨yal H.out.symm, rfl⟩
  rcases Bool.eq_false_or_eq_true (s.toList == [110]) with q8 | q8
  · have H := Lib.hid (yay s _ (by decide) q8)
    go_enter Tryz.func114, Tryz.ntmps114
    go_wp2
    go_ret
    exact ⟨yal H.out.symm, rfl⟩
  rcases Bool.eq_false_or_eq_true (s.toList == [105, 100, 115]) with q9 | q9
  · have H := Lib.hid (yay s _ (by decide) q9)
    go_enter Tryz.func114, Tryz.ntmps114
    go_wp2
    go_ret
    exact ⟨yal H.out.symm, rfl⟩
  rcases Bool.eq_false_or_eq_true (s.toList == [105, 100]) with q10 | q10
  · have H := Lib.hid (yay s _ (by decide) q10)
    go_enter Tryz.func114, Tryz.ntmps114
    go_wp2
    go_ret
    exact ⟨yal H.out.symm, rfl⟩
  rcases Bool.eq_false_or_eq_true (s.toList == [100, 101, 103]) with q11 | q11
  · have H := Lib.hid (yay s _ (by decide) q11)
    go_enter Tryz.func114, Tryz.ntmps114
    go_wp2
    go_ret
    exact ⟨yal H.out.symm, rfl⟩
  rcases Bool.eq_false_or_eq_true (s.toList == [114, 111, 111, 116]) with q12 | q12
  · have H := Lib.hid (yay s _ (by decide) q12)
    go_enter Tryz.func114, Tryz.ntmps114
    go_wp2
    go_ret
    exact ⟨yal H.out.symm, rfl⟩
  rcases Bool.eq_false_or_eq_true (s.toList == [113]) with q13 | q13
  · have H := Lib.hid (yay s _ (by decide) q13)
    go_enter Tryz.func114, Tryz.ntmps114
    go_wp2
    go_ret
    exact ⟨yal H.out.symm, rfl⟩
  rcases Bool.eq_false_or_eq_true (s.toList == [119, 101, 105, 103, 104, 116]) with q14 | q14
  · have H := Lib.hid (yay s _ (by decide) q14)
    go_enter Tryz.func114, Tryz.ntmps114
    go_wp2
    go_ret
    exact ⟨yal H.out.symm, rfl⟩
  rcases Bool.eq_false_or_eq_true (s.toList == [98, 97, 99, 107]) with q15 | q15
  · have H := Lib.hid (yay s _ (by decide) q15)
    go_enter Tryz.func114, Tryz.ntmps114
    go_wp2
    go_ret
    exact ⟨yal H.out.symm, rfl⟩
  rcases Bool.eq_false_or_eq_true (s.toList == [97, 108, 108]) with q16 | q16
  · have H := Lib.hid (yay s _ (by decide) q16)
    go_enter Tryz.func114, Tryz.ntmps114
    go_wp2
    go_ret
    exact ⟨yal H.out.symm, rfl⟩
  rcases Bool.eq_false_or_eq_true (s.toList == [115, 111, 109, 101]) with q17 | q17
  · have H := Lib.hid (yay s _ (by decide) q17)
    go_enter Tryz.func114, Tryz.ntmps114
    go_wp2
    go_ret
    exact ⟨yal H.out.symm, rfl⟩
  rcases Bool.eq_false_or_eq_true (s.toList == [99, 111, 117, 110, 116]) with q18 | q18
  · have H := Lib.hid (yay s _ (by decide) q18)
    go_enter Tryz.func114, Tryz.ntmps114
    go_wp2
    go_ret
    exact ⟨yal H.out.symm, rfl⟩
  rcases Bool.eq_false_or_eq_true (s.toList == [102, 105, 114, 115, 116]) with q19 | q19
  · have H := Lib.hid (yay s _ (by decide) q19)
    go_enter Tryz.func114, Tryz.ntmps114
    go_wp2
    go_ret
    exact ⟨yal H.out.symm, rfl⟩
  rcases Bool.eq_false_or_eq_true (s.toList == [109, 105, 110]) with q20 | q20
  · have H := Lib.hid (yay s _ (by decide) q20)
    go_enter Tryz.func114, Tryz.ntmps114
    go_wp2
    go_ret
    exact ⟨yal H.out.symm, rfl⟩
  rcases Bool.eq_false_or_eq_true (s.toList == [109, 97, 120]) with q21 | q21
  · have H := Lib.hid (yay s _ (by decide) q21)
    go_enter Tryz.func114, Tryz.ntmps114
    go_wp2
    go_ret
    exact ⟨yal H.out.symm, rfl⟩
  rcases Bool.eq_false_or_eq_true (s.toList == [115, 117, 109]) with q22 | q22
  · have H := Lib.hid (yay s _ (by decide) q22)
    go_enter Tryz.func114, Tryz.ntmps114
    go_wp2
    go_ret
    exact ⟨yal H.out.symm, rfl⟩
  rcases Bool.eq_false_or_eq_true (s.toList == [109, 101, 120]) with q23 | q23
  · have H := Lib.hid (yay s _ (by decide) q23)
    go_enter Tryz.func114, Tryz.ntmps114
    go_wp2
    go_ret
    exact ⟨yal H.out.symm, rfl⟩
  rcases Bool.eq_false_or_eq_true (s.toList == [115, 101, 99, 111, 110, 100]) with q24 | q24
  · have H := Lib.hid (yay s _ (by decide) q24)
    go_enter Tryz.func114, Tryz.ntmps114
    go_wp2
    go_ret
    exact ⟨yal H.out.symm, rfl⟩
  rcases Bool.eq_false_or_eq_true (s.toList == [104, 101, 97, 100]) with q25 | q25
  · have H := Lib.hid (yay s _ (by decide) q25)
    go_enter Tryz.func114, Tryz.ntmps114
    go_wp2
    go_ret
    exact ⟨yal H.out.symm, rfl⟩
  have H := Lib.hid (resB_no s q0 q1 q2 q3 q4 q5 q6 q7 q8 q9 q10 q11 q12 q13 q14 q15 q16 q17 q18 q19 q20 q21 q22 q23 q24 q25)
  go_enter Tryz.func114, Tryz.ntmps114
  go_wp2
  go_ret
  exact ⟨yal H.out.symm, rfl⟩

set_option maxHeartbeats 4000000 in
theorem rreserved_any (s : ByteArray) (w : World) :
    Calls Tryz.prog 127 #[.string s] w fun e w' => e = .returned (.bool (resB s)) ∧ w = w' := by
  rcases Bool.eq_false_or_eq_true (s.toList == [112, 114, 111, 103, 114, 97, 109]) with q0 | q0
  · have H := Lib.hid (yay s _ (by decide) q0)
    go_enter Tryz.func127, Tryz.ntmps127
    go_wp2
    go_ret
    exact ⟨yal H.out.symm, rfl⟩
  rcases Bool.eq_false_or_eq_true (s.toList == [118, 97, 114]) with q1 | q1
  · have H := Lib.hid (yay s _ (by decide) q1)
    go_enter Tryz.func127, Tryz.ntmps127
    go_wp2
    go_ret
    exact ⟨yal H.out.symm, rfl⟩
  rcases Bool.eq_false_or_eq_true (s.toList == [114, 117, 108, 101]) with q2 | q2
  · have H := Lib.hid (yay s _ (by decide) q2)
    go_enter Tryz.func127, Tryz.ntmps127
    go_wp2
    go_ret
    exact ⟨yal H.out.symm, rfl⟩
  rcases Bool.eq_false_or_eq_true (s.toList == [98, 111, 111, 108]) with q3 | q3
  · have H := Lib.hid (yay s _ (by decide) q3)
    go_enter Tryz.func127, Tryz.ntmps127
    go_wp2
    go_ret
    exact ⟨yal H.out.symm, rfl⟩
  rcases Bool.eq_false_or_eq_true (s.toList == [112, 111, 114, 116]) with q4 | q4
  · have H := Lib.hid (yay s _ (by decide) q4)
    go_enter Tryz.func127, Tryz.ntmps127
    go_wp2
    go_ret
    exact ⟨yal H.out.symm, rfl⟩
  rcases Bool.eq_false_or_eq_true (s.toList == [116, 114, 117, 101]) with q5 | q5
  · have H := Lib.hid (yay s _ (by decide) q5)
    go_enter Tryz.func127, Tryz.ntmps127
    go_wp2
    go_ret
    exact ⟨yal H.out.symm, rfl⟩
  rcases Bool.eq_false_or_eq_true (s.toList == [102, 97, 108, 115, 101]) with q6 | q6
  · have H := Lib.hid (yay s _ (by decide) q6)
    go_enter Tryz.func127, Tryz.ntmps127
    go_wp2
    go_ret
    exact ⟨yal H.out.symm, rfl⟩
  rcases Bool.eq_false_or_eq_true (s.toList == [110, 111, 110, 101]) with q7 | q7
  · have H := Lib.hid (yay s _ (by decide) q7)
    go_enter Tryz.func127, Tryz.ntmps127
    go_wp2
    go_ret
    exact ⟨yal H.out.symm, rfl⟩
  rcases Bool.eq_false_or_eq_true (s.toList == [110]) with q8 | q8
  · have H := Lib.hid (yay s _ (by decide) q8)
    go_enter Tryz.func127, Tryz.ntmps127
    go_wp2
    go_ret
    exact ⟨yal H.out.symm, rfl⟩
  rcases Bool.eq_false_or_eq_true (s.toList == [105, 100, 115]) with q9 | q9
  · have H := Lib.hid (yay s _ (by decide) q9)
    go_enter Tryz.func127, Tryz.ntmps127
    go_wp2
    go_ret
    exact ⟨yal H.out.symm, rfl⟩
  rcases Bool.eq_false_or_eq_true (s.toList == [105, 100]) with q10 | q10
  · have H := Lib.hid (yay s _ (by decide) q10)
    go_enter Tryz.func127, Tryz.ntmps127
    go_wp2
    go_ret
    exact ⟨yal H.out.symm, rfl⟩
  rcases Bool.eq_false_or_eq_true (s.toList == [100, 101, 103]) with q11 | q11
  · have H := Lib.hid (yay s _ (by decide) q11)
    go_enter Tryz.func127, Tryz.ntmps127
    go_wp2
    go_ret
    exact ⟨yal H.out.symm, rfl⟩
  rcases Bool.eq_false_or_eq_true (s.toList == [114, 111, 111, 116]) with q12 | q12
  · have H := Lib.hid (yay s _ (by decide) q12)
    go_enter Tryz.func127, Tryz.ntmps127
    go_wp2
    go_ret
    exact ⟨yal H.out.symm, rfl⟩
  rcases Bool.eq_false_or_eq_true (s.toList == [113]) with q13 | q13
  · have H := Lib.hid (yay s _ (by decide) q13)
    go_enter Tryz.func127, Tryz.ntmps127
    go_wp2
    go_ret
    exact ⟨yal H.out.symm, rfl⟩
  rcases Bool.eq_false_or_eq_true (s.toList == [119, 101, 105, 103, 104, 116]) with q14 | q14
  · have H := Lib.hid (yay s _ (by decide) q14)
    go_enter Tryz.func127, Tryz.ntmps127
    go_wp2
    go_ret
    exact ⟨yal H.out.symm, rfl⟩
  rcases Bool.eq_false_or_eq_true (s.toList == [98, 97, 99, 107]) with q15 | q15
  · have H := Lib.hid (yay s _ (by decide) q15)
    go_enter Tryz.func127, Tryz.ntmps127
    go_wp2
    go_ret
    exact ⟨yal H.out.symm, rfl⟩
  rcases Bool.eq_false_or_eq_true (s.toList == [97, 108, 108]) with q16 | q16
  · have H := Lib.hid (yay s _ (by decide) q16)
    go_enter Tryz.func127, Tryz.ntmps127
    go_wp2
    go_ret
    exact ⟨yal H.out.symm, rfl⟩
  rcases Bool.eq_false_or_eq_true (s.toList == [115, 111, 109, 101]) with q17 | q17
  · have H := Lib.hid (yay s _ (by decide) q17)
    go_enter Tryz.func127, Tryz.ntmps127
    go_wp2
    go_ret
    exact ⟨yal H.out.symm, rfl⟩
  rcases Bool.eq_false_or_eq_true (s.toList == [99, 111, 117, 110, 116]) with q18 | q18
  · have H := Lib.hid (yay s _ (by decide) q18)
    go_enter Tryz.func127, Tryz.ntmps127
    go_wp2
    go_ret
    exact ⟨yal H.out.symm, rfl⟩
  rcases Bool.eq_false_or_eq_true (s.toList == [102, 105, 114, 115, 116]) with q19 | q19
  · have H := Lib.hid (yay s _ (by decide) q19)
    go_enter Tryz.func127, Tryz.ntmps127
    go_wp2
    go_ret
    exact ⟨yal H.out.symm, rfl⟩
  rcases Bool.eq_false_or_eq_true (s.toList == [109, 105, 110]) with q20 | q20
  · have H := Lib.hid (yay s _ (by decide) q20)
    go_enter Tryz.func127, Tryz.ntmps127
    go_wp2
    go_ret
    exact ⟨yal H.out.symm, rfl⟩
  rcases Bool.eq_false_or_eq_true (s.toList == [109, 97, 120]) with q21 | q21
  · have H := Lib.hid (yay s _ (by decide) q21)
    go_enter Tryz.func127, Tryz.ntmps127
    go_wp2
    go_ret
    exact ⟨yal H.out.symm, rfl⟩
  rcases Bool.eq_false_or_eq_true (s.toList == [115, 117, 109]) with q22 | q22
  · have H := Lib.hid (yay s _ (by decide) q22)
    go_enter Tryz.func127, Tryz.ntmps127
    go_wp2
    go_ret
    exact ⟨yal H.out.symm, rfl⟩
  rcases Bool.eq_false_or_eq_true (s.toList == [109, 101, 120]) with q23 | q23
  · have H := Lib.hid (yay s _ (by decide) q23)
    go_enter Tryz.func127, Tryz.ntmps127
    go_wp2
    go_ret
    exact ⟨yal H.out.symm, rfl⟩
  rcases Bool.eq_false_or_eq_true (s.toList == [115, 101, 99, 111, 110, 100]) with q24 | q24
  · have H := Lib.hid (yay s _ (by decide) q24)
    go_enter Tryz.func127, Tryz.ntmps127
    go_wp2
    go_ret
    exact ⟨yal H.out.symm, rfl⟩
  rcases Bool.eq_false_or_eq_true (s.toList == [104, 101, 97, 100]) with q25 | q25
  · have H := Lib.hid (yay s _ (by decide) q25)
    go_enter Tryz.func127, Tryz.ntmps127
    go_wp2
    go_ret
    exact ⟨yal H.out.symm, rfl⟩
  have H := Lib.hid (resB_no s q0 q1 q2 q3 q4 q5 q6 q7 q8 q9 q10 q11 q12 q13 q14 q15 q16 q17 q18 q19 q20 q21 q22 q23 q24 q25)
  go_enter Tryz.func127, Tryz.ntmps127
  go_wp2
  go_ret
  exact ⟨yal H.out.symm, rfl⟩

theorem name_any (s : ByteArray) (w : World) (hs : s.size ≤ 9223372036854775807) :
    Calls Tryz.prog 94 #[.string s] w fun e w' => e = .returned (.bool (nameB s)) ∧ w = w' := by
  by_cases h0 : s.size = 0
  · have H := Lib.hid (nameB_empty s h0)
    have h0' : s.size < 1 := by omega
    clear h0
    go_enter Tryz.func94, Tryz.ntmps94
    go_wp2
    go_ret
    exact ⟨yal H.out.symm, rfl⟩
  have h0' : 0 < s.size := by omega
  clear h0
  by_cases h24 : 24 < s.size
  · have H := Lib.hid (nameB_long s h24)
    go_enter Tryz.func94, Tryz.ntmps94
    go_wp2
    go_ret
    exact ⟨yal H.out.symm, rfl⟩
  cases hl : letterB s[0]
  · have H := Lib.hid (nameB_letter s h0' hl)
    go_enter Tryz.func94, Tryz.ntmps94
    go_wp2_with (go_at_call 112; refine (letter_any _ _).mono ?_; rintro e w' ⟨rfl, rfl⟩)
    go_ret
    exact ⟨yal H.out.symm, rfl⟩
  go_enter Tryz.func94, Tryz.ntmps94
  go_wp2_with (go_at_call 112; refine (letter_any _ _).mono ?_; rintro e w' ⟨rfl, rfl⟩)
  go_loop [3, 20] (fun _ i => ∃ k : Nat, k ≤ s.size ∧ i = .int .i64 k ∧ Hid (((ybw s 0).take k).all wordB = true)) (fun _ i => s.size - (intOf i).toNat)
  case atStart => exact ⟨0, by omega, rfl, rfl⟩
  case round =>
    obtain ⟨k, hk, rfl, ha⟩ := hrel
    by_cases hlt : k < s.size
    · cases hw : wordB s[k]
      · have H := Lib.hid (nameB_word s k hlt hw)
        go_wp2_with (go_at_call 113; refine (inWord_any _ _).mono ?_; rintro e w' ⟨rfl, rfl⟩)
        go_ret
        exact ⟨yal H.out.symm, rfl⟩
      · have H := Lib.hid (all_snoc s k hlt ha.out hw)
        go_wp2_with (go_at_call 113; refine (inWord_any _ _).mono ?_; rintro e w' ⟨rfl, rfl⟩)
        exact ⟨⟨k + 1, by omega, by go_num, H⟩, by simp [intOf]; omega⟩
    · obtain rfl : k = s.size := by omega
      have H := Lib.hid (nameB_rest s h0' (by omega) hl ha.out)
      go_wp2_with (go_at_call 114; refine (reserved_any _ _).mono ?_; rintro e w' ⟨rfl, rfl⟩)
      go_ret
      exact ⟨yal H.out.symm, rfl⟩

set_option maxHeartbeats 1000000 in
theorem rname_any (s : ByteArray) (w : World) (hs : s.size ≤ 9223372036854775807) :
    Calls Tryz.prog 103 #[.string s] w fun e w' => e = .returned (.bool (nameB s)) ∧ w = w' := by
  by_cases h0 : s.size = 0
  · have H := Lib.hid (nameB_empty s h0)
    have h0' : s.size < 1 := by omega
    clear h0
    go_enter Tryz.func103, Tryz.ntmps103
    go_wp2
    go_ret
    exact ⟨yal H.out.symm, rfl⟩
  have h0' : 0 < s.size := by omega
  clear h0
  by_cases h24 : 24 < s.size
  · have H := Lib.hid (nameB_long s h24)
    go_enter Tryz.func103, Tryz.ntmps103
    go_wp2
    go_ret
    exact ⟨yal H.out.symm, rfl⟩
  cases hl : letterB s[0]
  · have H := Lib.hid (nameB_letter s h0' hl)
    go_enter Tryz.func103, Tryz.ntmps103
    go_wp2_with (go_at_call 125; refine (rletter_any _ _).mono ?_; rintro e w' ⟨rfl, rfl⟩)
    go_ret
    exact ⟨yal H.out.symm, rfl⟩
  go_enter Tryz.func103, Tryz.ntmps103
  go_wp2_with (go_at_call 125; refine (rletter_any _ _).mono ?_; rintro e w' ⟨rfl, rfl⟩)
  go_loop [3] (fun i => ∃ k : Nat, k ≤ s.size ∧ i = .int .i64 k ∧ Hid (((ybw s 0).take k).all wordB = true)) (fun i => s.size - (intOf i).toNat)
  case atStart => exact ⟨1, by omega, rfl, by rw [bytesFrom_lt s 0 h0']; show (List.take 1 _).all wordB = true; simp [wordB, hl]⟩
  case round =>
    obtain ⟨k, hk, rfl, ha⟩ := hrel
    by_cases hlt : k < s.size
    · cases hw : wordB s[k]
      · have H := Lib.hid (nameB_word s k hlt hw)
        go_wp2_with (go_at_call 126; refine (rinner_any _ _).mono ?_; rintro e w' ⟨rfl, rfl⟩)
        go_ret
        exact ⟨yal H.out.symm, rfl⟩
      · have H := Lib.hid (all_snoc s k hlt ha.out hw)
        go_wp2_with (go_at_call 126; refine (rinner_any _ _).mono ?_; rintro e w' ⟨rfl, rfl⟩)
        exact ⟨⟨k + 1, by omega, by go_num, H⟩, by simp [intOf]; omega⟩
    · obtain rfl : k = s.size := by omega
      have H := Lib.hid (nameB_rest s h0' (by omega) hl ha.out)
      go_wp2_with (go_at_call 127; refine (rreserved_any _ _).mono ?_; rintro e w' ⟨rfl, rfl⟩)
      go_ret
      exact ⟨yal H.out.symm, rfl⟩

end Go.Proofs.YtmlkdoimkdbdpaaGreatDoor
set_option linter.unusedVariables false
namespace Go.Proofs.YtmlkdoimkdbdpaaGreatDoor
open Go.RowKit

def nkey (s : ByteArray) : List UInt8 := s.data.toList
theorem nkey_beq (a b : ByteArray) : (a.toList == b.toList) = decide (nkey a = nkey b) := by
  rw [ByteArray.toList_eq, ByteArray.toList_eq, Bool.eq_iff_iff]; simp [nkey]
def yfa (l : List ByteArray) : Bool := l.all nameB && decide ((l.map nkey).Nodup)
theorem names_bad {l : List ByteArray} (k : Nat) (hk : k < l.length) (h : nameB l[k] = false) : yfa l = false := by
  unfold yfa
  have : l.all nameB = false := by rw [List.all_eq_false]; exact ⟨l[k], List.getElem_mem hk, by simp [h]⟩
  rw [this]; rfl
theorem names_twice {l : List ByteArray} (j k : Nat) (hjk : j < k) (hk : k < l.length) (h : nkey (l[j]'(by omega)) = nkey l[k]) : yfa l = false := by
  unfold yfa
  have : ¬ (l.map nkey).Nodup := by
    intro hn
    have hn' := List.pairwise_iff_getElem.1 hn j k (by simp; omega) (by simpa using hk) hjk
    apply hn'
    simp [h]
  simp [this]
theorem names_step {l : List ByteArray} (k : Nat) (hk : k < l.length) (h : yfa (l.take k) = true) (h1 : nameB l[k] = true) (h2 : nkey l[k] ∉ (l.take k).map nkey) : yfa (l.take (k + 1)) = true := by
  unfold yfa at *
  rw [Bool.and_eq_true, decide_eq_true_eq] at *
  rw [List.take_succ_eq_append_getElem hk, List.all_append, h.1, List.map_append]
  refine ⟨by simpa using h1, ?_⟩
  rw [List.nodup_append]
  refine ⟨h.2, by simp, ?_⟩
  intro a ha b hb
  simp only [List.map_singleton, List.mem_singleton] at hb
  subst hb
  intro hab
  exact h2 (hab ▸ ha)
theorem mem_names {l : List ByteArray} {k : Nat} {x : List UInt8} (h : x ∈ (l.take k).map nkey) : ∃ j, ∃ h : j < l.length, j < k ∧ nkey l[j] = x := by
  rw [List.mem_map] at h
  obtain ⟨s, hs, rfl⟩ := h
  obtain ⟨j, hj⟩ := List.getElem?_of_mem hs
  have hjk : j < k := by
    have := (List.getElem?_eq_some_iff.1 hj).1
    rw [List.length_take] at this; omega
  rw [List.getElem?_take, if_pos hjk] at hj
  obtain ⟨h1, h2⟩ := List.getElem?_eq_some_iff.1 hj
  exact ⟨j, h1, hjk, by rw [h2]⟩
theorem names_again {l : List ByteArray} {k : Nat} (hk : k < l.length) (h : nkey l[k] ∈ (l.take k).map nkey) : yfa l = false := by
  obtain ⟨j, hj, hjk, he⟩ := mem_names h
  exact names_twice j k hjk hk he

def ycx (p : ProgD) : Bool := nameB p.name && (yfa (p.vars.map (·.name)) && yfa (p.rules.map (·.name)))
def ybv (r : RuleD) (n : Int) : Bool :=
  decide (1 ≤ r.sets.length) && (decide (r.sets.length ≤ 6) && (ydc r.guard n && (r.sets.all (fun s => ycf s.var 0 (n - 1) && ydc s.val n) && decide ((r.sets.map (·.var)).Nodup))))
def yep (r : RuleD) (kinds : List Int) : Bool := ((ofF r.guard kinds false).1 == 2) && r.sets.all (fun s => (ofF s.val kinds false).1 == kinds.getD s.var.toNat 0)
def ybq (p : ProgD) : List Int := p.vars.map (·.kind)
def yed (p : ProgD) : Int :=
  if p.vars.length = 0 ∨ 6 < p.vars.length ∨ 12 < p.rules.length then 3 else if ycx p = false then 5 else if p.vars.all numB = false then 2 else
  if p.rules.all (ybv · p.vars.length) = false then 7 else if p.rules.all (yep · (ybq p)) = false then 6 else 0
theorem yff {α : Type} {f : α → Bool} {l : List α} (k : Nat) (hk : k < l.length) (h : f l[k] = false) : l.all f = false := by
  rw [List.all_eq_false]; exact ⟨l[k], List.getElem_mem hk, by simp [h]⟩
theorem yfg {α : Type} {f : α → Bool} {l : List α} (k : Nat) (hk : k < l.length) (h : (l.take k).all f = true) (hw : f l[k] = true) : (l.take (k + 1)).all f = true := by
  rw [List.take_succ_eq_append_getElem hk, List.all_append, h]; simp [hw]
theorem all_end {α : Type} {f : α → Bool} {l : List α} (h : (l.take l.length).all f = true) : l.all f = true := by rw [List.take_length] at h; exact h
end Go.Proofs.YtmlkdoimkdbdpaaGreatDoor
