/- The walks over the reference's Operand and kind. -/
import Derived.Test.YtogennegbihceaaTypeWalk2
set_option maxRecDepth 100000
namespace Go.Proofs.Ytogennegbihceaa
open Go.RowKit

theorem end_fl {l : List Tm} {q : Nat} {X : Ex} {r : List Tm} (h : l.drop q = X.fl ++ r) (ho : X.ok) : endR 1 q l = ((q + X.fl.length : Nat) : Int) := by
  unfold endR
  rw [h, endN_fl X ho 0 r, endN_zero]
  simp
theorem drop_next {l : List Tm} {q : Nat} {X : Ex} {r : List Tm} (h : l.drop q = X.fl ++ r) : l.drop (q + X.fl.length) = r := by
  rw [← List.drop_drop, h, List.drop_append_of_le_length (Nat.le_refl _), List.drop_length, List.nil_append]

set_option maxHeartbeats 2000000 in
theorem roperand1 (v : Value) (l : List Tm) (p : Nat) (E A : Ex) (t : Tm) (r r1 : List Tm) (w : World) (hl : l.length ≤ 1000) (hv : Hid (Terms w v l)) (hE : Hid (l.drop p = E.fl ++ r)) (ho : Hid E.ok) (hA : Hid (l.drop p = t :: (A.fl ++ r1))) (hoA : Hid A.ok) (har : 2 ≤ ar t.1) :
    Calls Try.prog 55 #[v, .int .i64 p, .int .i64 1] w fun e w' => e = .returned (.int .i64 ((p + 1 + A.fl.length : Nat) : Int)) ∧ w = w' := by
  obtain ⟨hp, hpt, hd1⟩ := drop_get hA.out
  obtain ⟨a0, cap0, rfl, h1, h2, h3⟩ := hv.out.open
  obtain ⟨g, o, rfl, hg, hc⟩ := h3 (by omega)
  obtain ⟨c0, c1⟩ := hc p t hpt
  have HE1 := Lib.hid (end_fl hE.out ho.out)
  have HE2 := Lib.hid (end_fl hd1 hoA.out)
  have hb := ar_bd t.1
  have hb2 := hb.2
  clear hc h3 hpt hd1 hb
  go_enter Try.func55, Try.ntmps55
  go_wp2_with fail
  refine (rend_at _ l p _ hl hv (by omega)).mono ?_
  rintro e w' ⟨rfl, rfl⟩
  rw [HE1.out]
  go_wp2_with (go_at_call 50; refine (rarity_any _ _).mono ?_; rintro e w' ⟨rfl, rfl⟩)
  refine wp_loop_rounds 2 ?_
  rw [rounds_succ]
  go_wp2_with fail
  rw [show ((p : Int) + 1) = ((p + 1 : Nat) : Int) by omega]
  refine (rend_at _ l (p + 1) _ hl hv (by omega)).mono ?_
  rintro e w' ⟨rfl, rfl⟩
  rw [HE2.out]
  go_wp2_with fail
  rw [rounds_succ]
  go_wp2_with fail
  go_ret
  exact ⟨rfl, rfl⟩
set_option maxHeartbeats 2000000 in
theorem roperand2 (v : Value) (l : List Tm) (p : Nat) (E A B : Ex) (t : Tm) (r r1 : List Tm) (w : World) (hl : l.length ≤ 1000) (hv : Hid (Terms w v l)) (hE : Hid (l.drop p = E.fl ++ r)) (ho : Hid E.ok) (hA : Hid (l.drop p = t :: (A.fl ++ (B.fl ++ r1)))) (hoA : Hid A.ok) (hoB : Hid B.ok) (har : 3 ≤ ar t.1) :
    Calls Try.prog 55 #[v, .int .i64 p, .int .i64 2] w fun e w' => e = .returned (.int .i64 ((p + 1 + A.fl.length + B.fl.length : Nat) : Int)) ∧ w = w' := by
  obtain ⟨hp, hpt, hd1⟩ := drop_get hA.out
  obtain ⟨a0, cap0, rfl, h1, h2, h3⟩ := hv.out.open
  obtain ⟨g, o, rfl, hg, hc⟩ := h3 (by omega)
  obtain ⟨c0, c1⟩ := hc p t hpt
  have HE1 := Lib.hid (end_fl hE.out ho.out)
  have HE2 := Lib.hid (end_fl hd1 hoA.out)
  have hd2 := drop_next hd1
  have HE3 := Lib.hid (end_fl hd2 hoB.out)
  have hq : p + 1 + A.fl.length ≤ l.length := by
    have h5 := congrArg List.length hA.out
    rw [List.length_drop] at h5
    simp at h5
    omega
  have hb := ar_bd t.1
  have hb2 := hb.2
  clear hc h3 hpt hd1 hd2 hb
  go_enter Try.func55, Try.ntmps55
  go_wp2_with fail
  refine (rend_at _ l p _ hl hv (by omega)).mono ?_
  rintro e w' ⟨rfl, rfl⟩
  rw [HE1.out]
  go_wp2_with (go_at_call 50; refine (rarity_any _ _).mono ?_; rintro e w' ⟨rfl, rfl⟩)
  refine wp_loop_rounds 3 ?_
  rw [rounds_succ]
  go_wp2_with fail
  rw [show ((p : Int) + 1) = ((p + 1 : Nat) : Int) by omega]
  refine (rend_at _ l (p + 1) _ hl hv (by omega)).mono ?_
  rintro e w' ⟨rfl, rfl⟩
  rw [HE2.out]
  generalize hqe : p + 1 + A.fl.length = q at *
  have HQ := Lib.hid hqe
  clear hqe
  go_wp2_with fail
  rw [rounds_succ]
  go_wp2_with fail
  refine (rend_at _ l q _ hl hv (by omega)).mono ?_
  rintro e w' ⟨rfl, rfl⟩
  rw [HE3.out]
  go_wp2_with fail
  rw [rounds_succ]
  go_wp2_with fail
  go_ret
  exact ⟨ret_int (by have := HQ.out; simp; omega), rfl⟩
end Go.Proofs.Ytogennegbihceaa
