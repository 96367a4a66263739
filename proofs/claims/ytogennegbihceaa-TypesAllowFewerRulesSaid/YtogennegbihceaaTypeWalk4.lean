/- The walk over the reference's kind: the type of the expression that begins at a place. -/
import Derived.Test.YtogennegbihceaaTypeWalk3
set_option maxRecDepth 100000
namespace Go.Proofs.Ytogennegbihceaa
open Go.RowKit

def KindRet (kinds : List Int) (bound : Bool) (E : Ex) (w : World) (e : Ending) (w' : World) : Prop :=
  e = .returned (.int .i64 (ty kinds bound E)) ∧ Below w.heap.size w w'
def KindsAt (ev kv : Value) (l : List Tm) (kinds : List Int) (E : Ex) : Prop :=
  ∀ (p : Nat) (r : List Tm) (bound : Bool) (w : World), l.drop p = E.fl ++ r → Terms w ev l → Ints .i64 w kv kinds →
    Calls Try.prog 31 #[ev, .int .i64 p, kv, .bool bound] w (KindRet kinds bound E w)

theorem rleaf_ty (kv : Value) (kinds : List Int) (op x : Int) (bound : Bool) (w : World) (hk : Hid (Ints .i64 w kv kinds)) (h1 : 1 ≤ op) (h2 : op ≤ 17) (hx : op = 5 ∨ op = 12 → 0 ≤ x ∧ x < kinds.length) :
    Calls Try.prog 51 #[.agg #[.int .i64 op, .int .i64 x], kv, .bool bound] w fun e w' => e = .returned (.int .i64 (ty kinds bound (.lf (op, x)))) ∧ Below w.heap.size w w' :=
  (rleaf_any kv kinds op x bound w hk h1 h2 hx).mono fun e w' ⟨he, hb⟩ => ⟨by rw [he]; rfl, hb⟩
set_option maxHeartbeats 1000000 in
theorem kind_leaf (ev kv : Value) (l : List Tm) (kinds : List Int) (t : Tm) (hl : l.length ≤ 1000) (h0 : ar t.1 = 0) (ha : Hid (argB kinds.length t = true)) : KindsAt ev kv l kinds (.lf t) := by
  intro p r bound w hd ht hk
  obtain ⟨a0, cap0, rfl, h1, h2, h3⟩ := ht.open
  obtain ⟨hp, hpt, _⟩ := drop_get hd
  obtain ⟨g, o, rfl, hg, hc⟩ := h3 (by omega)
  obtain ⟨c0, c1⟩ := hc p t hpt
  obtain ⟨h11, h17⟩ := ar_zero h0
  have HK := Lib.hid hk
  have hz : (ar t.1 == 0) = true := by rw [h0]; rfl
  clear hc h3 hpt hd ht hk h0
  obtain ⟨op, x⟩ := t
  simp only at *
  go_enter Try.func31, Try.ntmps31
  go_wp2_with (first | (go_at_call 50; refine (rarity_any _ _).mono ?_; rintro e w' ⟨rfl, rfl⟩) | (go_at_call 51; refine (rleaf_ty _ kinds op x bound _ HK h11 h17 (arg_leaf ha.out)).mono ?_; rintro e w1 ⟨rfl, hb1⟩))
  go_ret
  exact ⟨rfl, hb1⟩

set_option maxHeartbeats 2000000 in
theorem kind_un (ev kv : Value) (l : List Tm) (kinds : List Int) (t : Tm) (A : Ex) (hl : l.length ≤ 1000) (h0 : ar t.1 = 1) (ihA : KindsAt ev kv l kinds A) : KindsAt ev kv l kinds (.un t A) := by
  intro p r bound w hd ht hk
  obtain ⟨a0, cap0, rfl, h1, h2, h3⟩ := ht.open
  simp only [Ex.fl, List.cons_append] at hd
  obtain ⟨hp, hpt, hd1⟩ := drop_get hd
  obtain ⟨g, o, rfl, hg, hc⟩ := h3 (by omega)
  obtain ⟨c0, c1⟩ := hc p t hpt
  obtain ⟨h18, h29⟩ := ar_one h0
  have HT := Lib.hid ht
  have HK := Lib.hid hk
  have HD1 := Lib.hid hd1
  have HIA := Lib.hid ihA
  have HR : Hid (ty kinds bound (.un t A) = ty1 t.1 (ty kinds (bound || aggB t.1) A)) := rfl
  have hz : (ar t.1 == 0) = false := by rw [h0]; rfl
  have hz1 : (ar t.1 == 1) = true := by rw [h0]; rfl
  have hpl : p + 1 ≤ 1000 := by omega
  clear hc h3 hpt hd ht hk hd1 ihA h0
  obtain ⟨op, x⟩ := t
  simp only at *
  rcases Bool.eq_false_or_eq_true (aggB op) with hn | hn <;> cases bound
  all_goals
    simp only [hn, Bool.or_true, Bool.or_false] at HR
    go_enter Try.func31, Try.ntmps31
    go_wp2_with (first | (go_at_call 50; refine (rarity_any _ _).mono ?_; rintro e w' ⟨rfl, rfl⟩) | (go_at_call 53; refine (raggregate_any _ _).mono ?_; rintro e w' ⟨rfl, rfl⟩))
    rw [show ((p : Int) + 1) = ((p + 1 : Nat) : Int) by omega]
    refine (HIA.out (p + 1) r _ _ HD1.out HT.out HK.out).mono ?_
    rintro e w1 ⟨rfl, hb1⟩
    generalize ty kinds _ A = ta at *
    go_wp2_with (first | (go_at_call 52; refine (rsingle_any _ _ _ (by omega) (by omega)).mono ?_; rintro e w2 ⟨rfl, rfl⟩))
    go_ret
    exact ⟨ret_int HR.out.symm, hb1⟩

set_option maxHeartbeats 4000000 in
theorem kind_bi (ev kv : Value) (l : List Tm) (kinds : List Int) (t : Tm) (A B : Ex) (hl : l.length ≤ 1000) (h0 : ar t.1 = 2) (hoA : A.ok) (hoB : B.ok) (ihA : KindsAt ev kv l kinds A) (ihB : KindsAt ev kv l kinds B) : KindsAt ev kv l kinds (.bi t A B) := by
  intro p r bound w hd ht hk
  obtain ⟨a0, cap0, rfl, h1, h2, h3⟩ := ht.open
  have HE := Lib.hid hd
  have HO : Hid (Ex.bi t A B).ok := ⟨h0, hoA, hoB⟩
  have HOA := Lib.hid hoA
  simp only [Ex.fl, List.cons_append, List.append_assoc] at hd
  have HA := Lib.hid hd
  obtain ⟨hp, hpt, hd1⟩ := drop_get hd
  obtain ⟨g, o, rfl, hg, hc⟩ := h3 (by omega)
  obtain ⟨c0, c1⟩ := hc p t hpt
  obtain ⟨h30, h42⟩ := ar_two h0
  have HT := Lib.hid ht
  have HK := Lib.hid hk
  have HDA := Lib.hid hd1
  have HDB := Lib.hid (drop_next hd1)
  have HIA := Lib.hid ihA
  have HIB := Lib.hid ihB
  have HR : Hid (ty kinds bound (.bi t A B) = ty2 t.1 (ty kinds bound A) (ty kinds bound B)) := rfl
  have hz : (ar t.1 == 0) = false := by rw [h0]; rfl
  have hz1 : (ar t.1 == 1) = false := by rw [h0]; rfl
  have hz2 : (ar t.1 == 2) = true := by rw [h0]; rfl
  have hge : 2 ≤ ar t.1 := by omega
  clear hc h3 hpt hd ht hk hd1 ihA ihB h0 hoA hoB
  go_enter Try.func31, Try.ntmps31
  go_wp2_with (go_at_call 50; refine (rarity_any _ _).mono ?_; rintro e w' ⟨rfl, rfl⟩)
  rw [show ((p : Int) + 1) = ((p + 1 : Nat) : Int) by omega]
  refine (HIA.out (p + 1) _ _ _ HDA.out HT.out HK.out).mono ?_
  rintro e w1 ⟨rfl, hb1⟩
  generalize ty kinds bound A = ta at *
  go_wp2_with fail
  refine (roperand1 _ l p (.bi t A B) A t r _ _ hl (by exact HT.out.below hb1) HE HO HA HOA hge).mono ?_
  rintro e w2 ⟨rfl, rfl⟩
  generalize p + 1 + A.fl.length = q1 at *
  go_wp2_with fail
  refine (HIB.out q1 _ _ _ HDB.out (HT.out.below hb1) (HK.out.below hb1)).mono ?_
  rintro e w3 ⟨rfl, hb3⟩
  generalize ty kinds bound B = tb at *
  go_wp2_with (first | (go_at_call 54; refine (rdouble_any _ _ _ _ (by omega) (by omega)).mono ?_; rintro e w2 ⟨rfl, rfl⟩))
  go_ret
  exact ⟨ret_int HR.out.symm, bthen hb1 hb3⟩

set_option maxHeartbeats 4000000 in
theorem kind_tr (ev kv : Value) (l : List Tm) (kinds : List Int) (t : Tm) (A B C : Ex) (hl : l.length ≤ 1000) (h0 : ar t.1 = 3) (hoA : A.ok) (hoB : B.ok) (hoC : C.ok) (ihA : KindsAt ev kv l kinds A) (ihB : KindsAt ev kv l kinds B) (ihC : KindsAt ev kv l kinds C) : KindsAt ev kv l kinds (.tr t A B C) := by
  intro p r bound w hd ht hk
  obtain ⟨a0, cap0, rfl, h1, h2, h3⟩ := ht.open
  have HE := Lib.hid hd
  have HO : Hid (Ex.tr t A B C).ok := ⟨h0, hoA, hoB, hoC⟩
  have HOA := Lib.hid hoA
  have HOB := Lib.hid hoB
  simp only [Ex.fl, List.cons_append, List.append_assoc] at hd
  have HA := Lib.hid hd
  obtain ⟨hp, hpt, hd1⟩ := drop_get hd
  obtain ⟨g, o, rfl, hg, hc⟩ := h3 (by omega)
  obtain ⟨c0, c1⟩ := hc p t hpt
  have HT := Lib.hid ht
  have HK := Lib.hid hk
  have HDA := Lib.hid hd1
  have HDB := Lib.hid (drop_next hd1)
  have HDC := Lib.hid (drop_next (drop_next hd1))
  have HIA := Lib.hid ihA
  have HIB := Lib.hid ihB
  have HIC := Lib.hid ihC
  have HR : Hid (ty kinds bound (.tr t A B C) = ty3 (ty kinds bound A) (ty kinds bound B) (ty kinds bound C)) := rfl
  have hz : (ar t.1 == 0) = false := by rw [h0]; rfl
  have hz1 : (ar t.1 == 1) = false := by rw [h0]; rfl
  have hz2 : (ar t.1 == 2) = false := by rw [h0]; rfl
  have hge : 2 ≤ ar t.1 := by omega
  have hge3 : 3 ≤ ar t.1 := by omega
  clear hc h3 hpt hd ht hk hd1 ihA ihB h0 hoA hoB hoC ihC
  go_enter Try.func31, Try.ntmps31
  go_wp2_with (go_at_call 50; refine (rarity_any _ _).mono ?_; rintro e w' ⟨rfl, rfl⟩)
  rw [show ((p : Int) + 1) = ((p + 1 : Nat) : Int) by omega]
  refine (HIA.out (p + 1) _ _ _ HDA.out HT.out HK.out).mono ?_
  rintro e w1 ⟨rfl, hb1⟩
  generalize ty kinds bound A = ta at *
  go_wp2_with fail
  refine (roperand1 _ l p (.tr t A B C) A t r _ _ hl (by exact HT.out.below hb1) HE HO HA HOA hge).mono ?_
  rintro e w2 ⟨rfl, rfl⟩
  go_wp2_with fail
  refine (HIB.out (p + 1 + A.fl.length) _ _ _ HDB.out (HT.out.below hb1) (HK.out.below hb1)).mono ?_
  rintro e w3 ⟨rfl, hb3⟩
  have hb13 := bthen hb1 hb3
  generalize ty kinds bound B = tb at *
  go_wp2_with fail
  refine (roperand2 _ l p (.tr t A B C) A B t r _ _ hl (by exact HT.out.below hb13) HE HO HA HOA HOB hge3).mono ?_
  rintro e w4 ⟨rfl, rfl⟩
  generalize p + 1 + A.fl.length + B.fl.length = q2 at *
  go_wp2_with fail
  refine (HIC.out q2 _ _ _ HDC.out (HT.out.below hb13) (HK.out.below hb13)).mono ?_
  rintro e w5 ⟨rfl, hb5⟩
  generalize ty kinds bound C = tc at *
  by_cases q : ta = 2
  · have q' : (ta != 2) = false := by simp [q]
    have Q := Lib.hid q
    clear q
    go_wp2_with fail
    all_goals go_ret
    all_goals refine ⟨ret_int ?_, bthen hb13 hb5⟩
    all_goals (rw [HR.out]; simp [ty3, Q.out]; first | done | (simp at *; omega))
  · have q' : (ta != 2) = true := by simp [q]
    go_wp2_with fail
    go_ret
    refine ⟨ret_int ?_, bthen hb13 hb5⟩
    rw [HR.out]; simp [ty3, q]

theorem kind_any (ev kv : Value) (l : List Tm) (kinds : List Int) (hl : l.length ≤ 1000) (E : Ex) : E.ok → (∀ t ∈ E.fl, argB kinds.length t = true) → KindsAt ev kv l kinds E := by
  induction E with
  | lf t => intro h ha; exact kind_leaf ev kv l kinds t hl h (ha t (by simp [Ex.fl]))
  | un t a iha => intro h ha; exact kind_un ev kv l kinds t a hl h.1 (iha h.2 fun t ht => ha t (by simp [Ex.fl, ht]))
  | bi t a b iha ihb => intro h ha; exact kind_bi ev kv l kinds t a b hl h.1 h.2.1 h.2.2 (iha h.2.1 fun t ht => ha t (by simp [Ex.fl, ht])) (ihb h.2.2 fun t ht => ha t (by simp [Ex.fl, ht]))
  | tr t a b c iha ihb ihc => intro h ha; exact kind_tr ev kv l kinds t a b c hl h.1 h.2.1 h.2.2.1 h.2.2.2 (iha h.2.1 fun t ht => ha t (by simp [Ex.fl, ht])) (ihb h.2.2.1 fun t ht => ha t (by simp [Ex.fl, ht])) (ihc h.2.2.2 fun t ht => ha t (by simp [Ex.fl, ht]))
end Go.Proofs.Ytogennegbihceaa
