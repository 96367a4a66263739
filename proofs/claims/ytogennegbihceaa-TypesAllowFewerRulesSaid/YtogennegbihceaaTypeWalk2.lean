/- The walk over the program's read: the type of the expression that begins at a place. -/
import Derived.Test.YtogennegbihceaaTypeWalk1
set_option maxRecDepth 100000
namespace Go.Proofs.Ytogennegbihceaa
open Go.RowKit

theorem ar_zero {op : Int} (h : ar op = 0) : 1 ≤ op ∧ op ≤ 17 := by
  unfold ar at h; (repeat' split at h) <;> omega
theorem ar_one {op : Int} (h : ar op = 1) : 18 ≤ op ∧ op ≤ 29 := by
  unfold ar at h; (repeat' split at h) <;> omega
theorem ar_two {op : Int} (h : ar op = 2) : 30 ≤ op ∧ op ≤ 42 := by
  unfold ar at h; (repeat' split at h) <;> omega
theorem ar_three {op : Int} (h : ar op = 3) : op = 43 := by
  unfold ar at h; (repeat' split at h) <;> omega
theorem arg_leaf {kinds : List Int} {t : Tm} (h : argB kinds.length t = true) : t.1 = 5 ∨ t.1 = 12 → 0 ≤ t.2 ∧ t.2 < kinds.length := by
  intro h5
  unfold argB at h
  rw [if_neg (by omega), if_pos h5] at h
  simpa using h
theorem drop_get {l : List Tm} {p : Nat} {t : Tm} {r : List Tm} (h : l.drop p = t :: r) : p < l.length ∧ l[p]? = some t ∧ l.drop (p + 1) = r := by
  have h1 : p < l.length := by
    rcases Nat.lt_or_ge p l.length with h1 | h1
    · exact h1
    · rw [List.drop_eq_nil_of_le h1] at h; cases h
  rw [List.drop_eq_getElem_cons h1] at h
  simp only [List.cons.injEq] at h
  exact ⟨h1, by rw [List.getElem?_eq_getElem h1, h.1], h.2⟩
/-- What read returns. -/
def ReadRet (kinds : List Int) (bound : Bool) (E : Ex) (p : Nat) (w : World) (e : Ending) (w' : World) : Prop :=
  e = .returned (.tuple #[.int .i64 (ty kinds bound E), .int .i64 ((p + E.fl.length : Nat) : Int)]) ∧ Below w.heap.size w w'
def ReadsAt (ev kv : Value) (l : List Tm) (kinds : List Int) (E : Ex) : Prop :=
  ∀ (p : Nat) (r : List Tm) (bound : Bool) (w : World), l.drop p = E.fl ++ r → Terms w ev l → Ints .i64 w kv kinds →
    Calls Try.prog 22 #[.agg #[ev, kv], .int .i64 p, .bool bound] w (ReadRet kinds bound E p w)

set_option maxHeartbeats 1000000 in
theorem read_leaf (ev kv : Value) (l : List Tm) (kinds : List Int) (t : Tm) (hl : l.length ≤ 1000) (h0 : ar t.1 = 0) (ha : Hid (argB kinds.length t = true)) : ReadsAt ev kv l kinds (.lf t) := by
  intro p r bound w hd ht hk
  obtain ⟨a0, cap0, rfl, h1, h2, h3⟩ := ht.open
  obtain ⟨hp, hpt, _⟩ := drop_get hd
  obtain ⟨g, o, rfl, hg, hc⟩ := h3 (by omega)
  obtain ⟨c0, c1⟩ := hc p t hpt
  obtain ⟨h11, h17⟩ := ar_zero h0
  have HT := Lib.hid ht
  have HK := Lib.hid hk
  have HR : Hid (ty kinds bound (.lf t) = if nearB t.1 && !bound then 0 else leafTy kinds t) := rfl
  have hz : (ar t.1 == 0) = true := by rw [h0]; rfl
  have hlen : Hid ((Ex.lf t).fl.length = 1) := rfl
  clear hc h3 hpt hd ht hk h0
  obtain ⟨op, x⟩ := t
  simp only at *
  rcases Bool.eq_false_or_eq_true (nearB op) with hn | hn <;> cases bound
  all_goals
    go_enter Try.func22, Try.ntmps22
    go_wp2_with (first | (go_at_call 36; refine (arity_any _ _).mono ?_; rintro e w' ⟨rfl, rfl⟩) | (go_at_call 37; refine (near_any _ _).mono ?_; rintro e w' ⟨rfl, rfl⟩) | (go_at_call 38; refine (leaf_any _ _ kinds op x _ (by exact Ints.below HK.out (by repeat (first | exact Below.refl _ _ | refine Below.alloc ?_ (by simp) _))) h11 h17 (arg_leaf ha.out)).mono ?_; rintro e w1 ⟨rfl, hb1⟩))
    go_ret2
    refine ⟨by rw [HR.out, hlen.out]; simp [hn], ?_⟩
    first | exact Below.trans (by repeat (first | exact Below.refl _ _ | refine Below.alloc ?_ (by simp) _)) (hb1.mono (by simp; omega)) | (repeat (first | exact Below.refl _ _ | refine Below.alloc ?_ (by simp) _))

set_option maxHeartbeats 2000000 in
theorem read_un (ev kv : Value) (l : List Tm) (kinds : List Int) (t : Tm) (A : Ex) (hl : l.length ≤ 1000) (h0 : ar t.1 = 1) (ihA : ReadsAt ev kv l kinds A) : ReadsAt ev kv l kinds (.un t A) := by
  intro p r bound w hd ht hk
  obtain ⟨a0, cap0, rfl, h1, h2, h3⟩ := ht.open
  simp only [Ex.fl, List.cons_append] at hd
  obtain ⟨hp, hpt, hd1⟩ := drop_get hd
  obtain ⟨g, o, rfl, hg, hc⟩ := h3 (by omega)
  obtain ⟨c0, c1⟩ := hc p t hpt
  obtain ⟨h18, h29⟩ := ar_one h0
  have HT := Lib.hid ht
  have HK := Lib.hid hk
  have HD1 := Lib.hid hd1
  have HIA := Lib.hid ihA
  have HR : Hid (ty kinds bound (.un t A) = resTy t.1 (ty kinds (bound || aggB t.1) A) 0 0) := by unfold resTy; rw [if_pos h0]; rfl
  have hz : (ar t.1 == 0) = false := by rw [h0]; rfl
  have hlen := Lib.hid (show (Ex.un t A).fl.length = 1 + A.fl.length by simp [Ex.fl]; omega)
  have hpl : p + 1 ≤ 1000 := by omega
  clear hc h3 hpt hd ht hk hd1 ihA
  obtain ⟨op, x⟩ := t
  simp only at *
  rcases Bool.eq_false_or_eq_true (aggB op) with hn | hn <;> cases bound
  all_goals
    simp only [hn, Bool.or_true, Bool.or_false] at HR
    go_enter Try.func22, Try.ntmps22
    go_wp2_with (first | (go_at_call 36; refine (arity_any _ _).mono ?_; rintro e w' ⟨rfl, rfl⟩) | (go_at_call 39; refine (aggregate_any _ _).mono ?_; rintro e w' ⟨rfl, rfl⟩))
    refine wp_loop_rounds 2 ?_
    rw [rounds_succ]
    go_wp2_with fail
    rw [show ((p : Int) + 1) = ((p + 1 : Nat) : Int) by omega]
    refine (HIA.out (p + 1) r _ _ HD1.out (by exact Terms.below HT.out (by repeat (first | exact Below.refl _ _ | refine Below.alloc ?_ (by first | (simp; done) | (simp; omega)) _))) (by exact Ints.below HK.out (by repeat (first | exact Below.refl _ _ | refine Below.alloc ?_ (by first | (simp; done) | (simp; omega)) _)))).mono ?_
    rintro e w1 ⟨rfl, hb1⟩
    obtain ⟨hcl, hfz⟩ := bcell hb1
    have hsz := hb1.size
    simp at hsz
    generalize ty kinds _ A = ta at *
    go_wp2_with fail
    rw [rounds_succ]
    go_wp2_with (first | (go_at_call 40; refine (result_any _ _ _ _ _ (by omega) (by omega)).mono ?_; rintro e w2 ⟨rfl, hb2⟩))
    have B1 : Below w.heap.size w w1 := Below.trans (by repeat (first | exact Below.refl _ _ | refine Below.alloc ?_ (by first | (simp; done) | (simp; omega)) _)) (hb1.mono (by simp; omega))
    have B2 := B1.size
    go_ret2
    refine ⟨by rw [HR.out, hlen.out]; simp; omega, Below.trans (B1.setCell ?_ _) (hb2.mono ?_)⟩
    · simp; omega
    · simp; omega

set_option maxHeartbeats 4000000 in
theorem read_bi (ev kv : Value) (l : List Tm) (kinds : List Int) (t : Tm) (A B : Ex) (hl : l.length ≤ 1000) (h0 : ar t.1 = 2) (ihA : ReadsAt ev kv l kinds A) (ihB : ReadsAt ev kv l kinds B) : ReadsAt ev kv l kinds (.bi t A B) := by
  intro p r bound w hd ht hk
  obtain ⟨a0, cap0, rfl, h1, h2, h3⟩ := ht.open
  simp only [Ex.fl, List.cons_append, List.append_assoc] at hd
  obtain ⟨hp, hpt, hd1⟩ := drop_get hd
  obtain ⟨g, o, rfl, hg, hc⟩ := h3 (by omega)
  obtain ⟨c0, c1⟩ := hc p t hpt
  have h18 : 18 ≤ t.1 ∧ t.1 ≤ 43 := by have := ar_two h0; omega
  have h18a := h18.1
  have h18b := h18.2
  have HT := Lib.hid ht
  have HK := Lib.hid hk
  have HDA := Lib.hid hd1
  have hdB : l.drop (p + 1 + A.fl.length) = B.fl ++ r := by rw [← List.drop_drop, hd1, List.drop_append_of_le_length (Nat.le_refl _), List.drop_length, List.nil_append]
  have HDB := Lib.hid hdB
  have HIA := Lib.hid ihA
  have HIB := Lib.hid ihB
  have HR : Hid (ty kinds bound (.bi t A B) = resTy t.1 (ty kinds bound A) (ty kinds bound B) 0) := by unfold resTy; rw [if_neg (by omega), if_pos h0]; rfl
  have hz : (ar t.1 == 0) = false := by rw [h0]; rfl
  have hn : aggB t.1 = false := agg_no (by omega)
  have hlen := Lib.hid (show (Ex.bi t A B).fl.length = 1 + A.fl.length + B.fl.length by simp [Ex.fl]; omega)
  have hll : Hid (l.length - p = 1 + A.fl.length + B.fl.length + r.length) := by
    have := congrArg List.length hd
    rw [List.length_drop] at this
    simp at this
    unfold Hid; omega
  clear hc h3 hpt hd ht hk hd1 ihA ihB hdB h18
  obtain ⟨op, x⟩ := t
  simp only at *
  cases bound
  all_goals
    go_enter Try.func22, Try.ntmps22
    go_wp2_with (first | (go_at_call 36; refine (arity_any _ _).mono ?_; rintro e w' ⟨rfl, rfl⟩) | (go_at_call 39; refine (aggregate_any _ _).mono ?_; rintro e w' ⟨rfl, rfl⟩))
    refine wp_loop_rounds 3 ?_
    rw [rounds_succ]
    go_wp2_with fail
    rw [show ((p : Int) + 1) = ((p + 1 : Nat) : Int) by omega]
    refine (HIA.out (p + 1) _ _ _ HDA.out (by exact Terms.below HT.out (by repeat (first | exact Below.refl _ _ | refine Below.alloc ?_ (by first | (simp; done) | (simp; omega)) _))) (by exact Ints.below HK.out (by repeat (first | exact Below.refl _ _ | refine Below.alloc ?_ (by first | (simp; done) | (simp; omega)) _)))).mono ?_
    rintro e w1 ⟨rfl, hb1⟩
    obtain ⟨hcl1, hfz1⟩ := bcell hb1
    have hsz1 := hb1.size
    simp at hsz1
    have B1 : Below w.heap.size w w1 := Below.trans (by repeat (first | exact Below.refl _ _ | refine Below.alloc ?_ (by first | (simp; done) | (simp; omega)) _)) (hb1.mono (by simp; omega))
    have B1s := B1.size
    have z1a : w.heap.size < w1.heap.size := by omega
    have z1b : w.heap.size + 1 < w1.heap.size := by omega
    have z1c : w.heap.size + 1 + 1 < w1.heap.size := by omega
    generalize ty kinds _ A = ta at *
    generalize hq1 : p + 1 + A.fl.length = q1 at *
    have HQ1 := Lib.hid hq1
    clear hq1
    have hqb2 : q1 ≤ 1000 := by have e1 := HQ1.out; have e2 := hll.out; omega
    go_wp2_with fail
    rw [rounds_succ]
    go_wp2_with fail
    refine (HIB.out q1 _ _ _ HDB.out (by exact Terms.below HT.out (B1.setCell (by first | (simp; done) | (simp; omega)) _)) (by exact Ints.below HK.out (B1.setCell (by first | (simp; done) | (simp; omega)) _))).mono ?_
    rintro e w2 ⟨rfl, hb2⟩
    obtain ⟨hcl2, hfz2⟩ := bcell hb2
    have hsz2 := hb2.size
    simp at hsz2
    have B2 : Below w.heap.size w w2 := Below.trans (B1.setCell (by first | (simp; done) | (simp; omega)) _) (hb2.mono (by simp; omega))
    have B2s := B2.size
    have z2a : w.heap.size < w2.heap.size := by omega
    have z2b : w.heap.size + 1 < w2.heap.size := by omega
    have z2c : w.heap.size + 1 + 1 < w2.heap.size := by omega
    generalize ty kinds _ B = tb at *
    generalize hq2 : q1 + B.fl.length = q2 at *
    have HQ2 := Lib.hid hq2
    clear hq2
    have hqe : q2 ≤ 1000 := by have e1 := HQ1.out; have e2 := hll.out; have e3 := HQ2.out; omega
    go_wp2_with fail
    rw [rounds_succ]
    go_wp2_with (first | (go_at_call 40; refine (result_any _ _ _ _ _ (by omega) (by omega)).mono ?_; rintro e wz ⟨rfl, hbz⟩))
    go_ret2
    refine ⟨?_, Below.trans (B2.setCell ?_ _) (hbz.mono ?_)⟩
    · rw [HR.out, hlen.out, show p + (1 + A.fl.length + B.fl.length) = q2 by have e1 := HQ1.out; have e3 := HQ2.out; omega]; rfl
    · first | (simp; done) | (simp; omega)
    · simp; omega

set_option maxHeartbeats 4000000 in
theorem read_tr (ev kv : Value) (l : List Tm) (kinds : List Int) (t : Tm) (A B C : Ex) (hl : l.length ≤ 1000) (h0 : ar t.1 = 3) (ihA : ReadsAt ev kv l kinds A) (ihB : ReadsAt ev kv l kinds B) (ihC : ReadsAt ev kv l kinds C) : ReadsAt ev kv l kinds (.tr t A B C) := by
  intro p r bound w hd ht hk
  obtain ⟨a0, cap0, rfl, h1, h2, h3⟩ := ht.open
  simp only [Ex.fl, List.cons_append, List.append_assoc] at hd
  obtain ⟨hp, hpt, hd1⟩ := drop_get hd
  obtain ⟨g, o, rfl, hg, hc⟩ := h3 (by omega)
  obtain ⟨c0, c1⟩ := hc p t hpt
  have h18 : 18 ≤ t.1 ∧ t.1 ≤ 43 := by have := ar_three h0; omega
  have h18a := h18.1
  have h18b := h18.2
  have HT := Lib.hid ht
  have HK := Lib.hid hk
  have HDA := Lib.hid hd1
  have hdB : l.drop (p + 1 + A.fl.length) = B.fl ++ (C.fl ++ r) := by rw [← List.drop_drop, hd1, List.drop_append_of_le_length (Nat.le_refl _), List.drop_length, List.nil_append]
  have HDB := Lib.hid hdB
  have hdC : l.drop (p + 1 + A.fl.length + B.fl.length) = C.fl ++ r := by rw [← List.drop_drop, hdB, List.drop_append_of_le_length (Nat.le_refl _), List.drop_length, List.nil_append]
  have HDC := Lib.hid hdC
  have HIA := Lib.hid ihA
  have HIB := Lib.hid ihB
  have HIC := Lib.hid ihC
  have HR : Hid (ty kinds bound (.tr t A B C) = resTy t.1 (ty kinds bound A) (ty kinds bound B) (ty kinds bound C)) := by unfold resTy; rw [if_neg (by omega), if_neg (by omega)]; rfl
  have hz : (ar t.1 == 0) = false := by rw [h0]; rfl
  have hn : aggB t.1 = false := agg_no (by omega)
  have hlen := Lib.hid (show (Ex.tr t A B C).fl.length = 1 + A.fl.length + B.fl.length + C.fl.length by simp [Ex.fl]; omega)
  have hll : Hid (l.length - p = 1 + A.fl.length + B.fl.length + C.fl.length + r.length) := by
    have := congrArg List.length hd
    rw [List.length_drop] at this
    simp at this
    unfold Hid; omega
  clear hc h3 hpt hd ht hk hd1 ihA ihB ihC hdB hdC h18
  obtain ⟨op, x⟩ := t
  simp only at *
  cases bound
  all_goals
    go_enter Try.func22, Try.ntmps22
    go_wp2_with (first | (go_at_call 36; refine (arity_any _ _).mono ?_; rintro e w' ⟨rfl, rfl⟩) | (go_at_call 39; refine (aggregate_any _ _).mono ?_; rintro e w' ⟨rfl, rfl⟩))
    refine wp_loop_rounds 4 ?_
    rw [rounds_succ]
    go_wp2_with fail
    rw [show ((p : Int) + 1) = ((p + 1 : Nat) : Int) by omega]
    refine (HIA.out (p + 1) _ _ _ HDA.out (by exact Terms.below HT.out (by repeat (first | exact Below.refl _ _ | refine Below.alloc ?_ (by first | (simp; done) | (simp; omega)) _))) (by exact Ints.below HK.out (by repeat (first | exact Below.refl _ _ | refine Below.alloc ?_ (by first | (simp; done) | (simp; omega)) _)))).mono ?_
    rintro e w1 ⟨rfl, hb1⟩
    obtain ⟨hcl1, hfz1⟩ := bcell hb1
    have hsz1 := hb1.size
    simp at hsz1
    have B1 : Below w.heap.size w w1 := Below.trans (by repeat (first | exact Below.refl _ _ | refine Below.alloc ?_ (by first | (simp; done) | (simp; omega)) _)) (hb1.mono (by simp; omega))
    have B1s := B1.size
    have z1a : w.heap.size < w1.heap.size := by omega
    have z1b : w.heap.size + 1 < w1.heap.size := by omega
    have z1c : w.heap.size + 1 + 1 < w1.heap.size := by omega
    generalize ty kinds _ A = ta at *
    generalize hq1 : p + 1 + A.fl.length = q1 at *
    have HQ1 := Lib.hid hq1
    clear hq1
    have hqb2 : q1 ≤ 1000 := by have e1 := HQ1.out; have e2 := hll.out; omega
    go_wp2_with fail
    rw [rounds_succ]
    go_wp2_with fail
    refine (HIB.out q1 _ _ _ HDB.out (by exact Terms.below HT.out (B1.setCell (by first | (simp; done) | (simp; omega)) _)) (by exact Ints.below HK.out (B1.setCell (by first | (simp; done) | (simp; omega)) _))).mono ?_
    rintro e w2 ⟨rfl, hb2⟩
    obtain ⟨hcl2, hfz2⟩ := bcell hb2
    have hsz2 := hb2.size
    simp at hsz2
    have B2 : Below w.heap.size w w2 := Below.trans (B1.setCell (by first | (simp; done) | (simp; omega)) _) (hb2.mono (by simp; omega))
    have B2s := B2.size
    have z2a : w.heap.size < w2.heap.size := by omega
    have z2b : w.heap.size + 1 < w2.heap.size := by omega
    have z2c : w.heap.size + 1 + 1 < w2.heap.size := by omega
    generalize ty kinds _ B = tb at *
    generalize hq2 : q1 + B.fl.length = q2 at *
    have HQ2 := Lib.hid hq2
    clear hq2
    have hqb3 : q2 ≤ 1000 := by have e1 := HQ1.out; have e2 := hll.out; have e3 := HQ2.out; omega
    go_wp2_with fail
    rw [rounds_succ]
    go_wp2_with fail
    refine (HIC.out q2 _ _ _ HDC.out (by exact Terms.below HT.out (B2.setCell (by first | (simp; done) | (simp; omega)) _)) (by exact Ints.below HK.out (B2.setCell (by first | (simp; done) | (simp; omega)) _))).mono ?_
    rintro e w3 ⟨rfl, hb3⟩
    obtain ⟨hcl3, hfz3⟩ := bcell hb3
    have hsz3 := hb3.size
    simp at hsz3
    have B3 : Below w.heap.size w w3 := Below.trans (B2.setCell (by first | (simp; done) | (simp; omega)) _) (hb3.mono (by simp; omega))
    have B3s := B3.size
    have z3a : w.heap.size < w3.heap.size := by omega
    have z3b : w.heap.size + 1 < w3.heap.size := by omega
    have z3c : w.heap.size + 1 + 1 < w3.heap.size := by omega
    generalize ty kinds _ C = tc at *
    generalize hq3 : q2 + C.fl.length = q3 at *
    have HQ3 := Lib.hid hq3
    clear hq3
    have hqe : q3 ≤ 1000 := by have e1 := HQ1.out; have e2 := hll.out; have e3 := HQ2.out; have e4 := HQ3.out; omega
    go_wp2_with fail
    rw [rounds_succ]
    go_wp2_with (first | (go_at_call 40; refine (result_any _ _ _ _ _ (by omega) (by omega)).mono ?_; rintro e wz ⟨rfl, hbz⟩))
    go_ret2
    refine ⟨?_, Below.trans (B3.setCell ?_ _) (hbz.mono ?_)⟩
    · rw [HR.out, hlen.out, show p + (1 + A.fl.length + B.fl.length + C.fl.length) = q3 by have e1 := HQ1.out; have e3 := HQ2.out; have e4 := HQ3.out; omega]; rfl
    · first | (simp; done) | (simp; omega)
    · simp; omega

theorem read_any (ev kv : Value) (l : List Tm) (kinds : List Int) (hl : l.length ≤ 1000) (E : Ex) : E.ok → (∀ t ∈ E.fl, argB kinds.length t = true) → ReadsAt ev kv l kinds E := by
  induction E with
  | lf t => intro h ha; exact read_leaf ev kv l kinds t hl h (ha t (by simp [Ex.fl]))
  | un t a iha => intro h ha; exact read_un ev kv l kinds t a hl h.1 (iha h.2 fun t ht => ha t (by simp [Ex.fl, ht]))
  | bi t a b iha ihb => intro h ha; exact read_bi ev kv l kinds t a b hl h.1 (iha h.2.1 fun t ht => ha t (by simp [Ex.fl, ht])) (ihb h.2.2 fun t ht => ha t (by simp [Ex.fl, ht]))
  | tr t a b c iha ihb ihc => intro h ha; exact read_tr ev kv l kinds t a b c hl h.1 (iha h.2.1 fun t ht => ha t (by simp [Ex.fl, ht])) (ihb h.2.2.1 fun t ht => ha t (by simp [Ex.fl, ht])) (ihc h.2.2.2 fun t ht => ha t (by simp [Ex.fl, ht]))
end Go.Proofs.Ytogennegbihceaa
