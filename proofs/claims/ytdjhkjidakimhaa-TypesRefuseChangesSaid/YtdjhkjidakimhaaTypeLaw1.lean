/- The walk over the law TypesCheck. -/
import Derived.Test.YtdjhkjidakimhaaLightWalk
set_option linter.unusedVariables false
namespace Go.Proofs.Ytdjhkjidakimhaa
open Go.RowKit Go.Maps

theorem box_later {w wr w2 : World} {xs : Array Value} {T : TypeId} (hb : Below (w.heap.size + 1) (w.alloc (.cells xs T)) wr) (h2 : Below wr.heap.size wr w2) : Below (w.heap.size + 1) (w.alloc (.cells xs T)) w2 := hb.trans (h2.mono (box_size hb))
set_option maxHeartbeats 8000000 in
theorem walk_TypesCheck (v : Value) (p : ProgD) (w : World) (hv0 : ProgOk w v p ∧ ProgIn p) :
    Calls Try.prog 9 #[v] w fun e w' => e = .returned (.bool true) ∧ Below w.heap.size w w' := by
  obtain ⟨hv, hin⟩ := hv0
  have HP := Lib.hid hv
  have HIN := Lib.hid hin
  obtain ⟨vv, rv, rfl, hvv, hrv⟩ := hv
  obtain ⟨a0, cap0, rfl, i1, i2, i3⟩ := hvv.open
  obtain ⟨a1, cap1, rfl, j1, j2, j3⟩ := hrv.open
  clear i3 j3 hvv hrv hin
  rcases Bool.eq_false_or_eq_true (lightB p) with ql | ql
  rotate_left
  · go_enter Try.func9, Try.ntmps9
    go_wp2_with fail
    refine (lightP_any _ p _ (by exact box_ok HP.out) HIN.out).mono ?_
    rintro e w1 ⟨rfl, hb1⟩
    go_wp2_with (go_at_call 12; refine (awake_any _).mono ?_; rintro e w2 ⟨rfl, hb2⟩)
    go_ret
    exact ⟨rfl, bthen (box_below (by simpa using hb1)) hb2⟩
  have HLP := Lib.hid (light_of ql)
  go_enter Try.func9, Try.ntmps9
  go_wp2_with fail
  refine (lightP_any _ p _ (by exact box_ok HP.out) HIN.out).mono ?_
  rintro e w1 ⟨rfl, hb1'⟩
  have hb1 : Below (w.heap.size + 1) (w.alloc (.cells #[.string p.name, .slice a0 p.vars.length cap0, .slice a1 p.rules.length cap1] 46)) w1 := by simpa using hb1'
  have e1 : (checkF p == checkF p) = true := by simp
  have e2 : ∀ b : Bool, (b == b) = true := by simp
  have c0 := box_at hb1 0
  have c1 := box_at hb1 1
  have c2 := box_at hb1 2
  simp at c0 c1 c2
  have SA : w1.cell? ⟨w.heap.size, 0, none⟩ = some (.string p.name) ∧ w1.cell? ⟨w.heap.size, 1, none⟩ = some (.slice a0 p.vars.length cap0) ∧ w1.cell? ⟨w.heap.size, 2, none⟩ = some (.slice a1 p.rules.length cap1) := ⟨c0, c1, c2⟩
  clear hb1'
  go_wp2_with fail
  go_region_held3 (fun w' => w'.cell? ⟨w.heap.size, 0, none⟩ = some (.string p.name) ∧ w'.cell? ⟨w.heap.size, 1, none⟩ = some (.slice a0 p.vars.length cap0) ∧ w'.cell? ⟨w.heap.size, 2, none⟩ = some (.slice a1 p.rules.length cap1)) (first | exact S6 | exact S5 | exact S4 | exact S3 | exact S2 | exact SA)
    (first | (go_at_call 12; refine (awake_any _).mono ?_; rintro e w2 ⟨rfl, hb2⟩; have K2 := box_later hb1.drew hb2; have S2 : w2.cell? ⟨w.heap.size, 0, none⟩ = some (.string p.name) ∧ w2.cell? ⟨w.heap.size, 1, none⟩ = some (.slice a0 p.vars.length cap0) ∧ w2.cell? ⟨w.heap.size, 2, none⟩ = some (.slice a1 p.rules.length cap1) := ⟨box_at K2 0, box_at K2 1, box_at K2 2⟩) | (go_at_call 24; refine (check_any _ p _ (by exact HP.out.below (box_below K2)) HIN.out HLP.out).mono ?_; rintro e w3 ⟨rfl, hb3⟩; have K3 := box_later K2 hb3; have S3 : w3.cell? ⟨w.heap.size, 0, none⟩ = some (.string p.name) ∧ w3.cell? ⟨w.heap.size, 1, none⟩ = some (.slice a0 p.vars.length cap0) ∧ w3.cell? ⟨w.heap.size, 2, none⟩ = some (.slice a1 p.rules.length cap1) := ⟨box_at K3 0, box_at K3 1, box_at K3 2⟩) | (go_at_call 25; refine (rcheck_any _ p _ (by exact HP.out.below (box_below K3)) HIN.out HLP.out).mono ?_; rintro e w4 ⟨rfl, hb4⟩; have K4 := box_later K3 hb4; have S4 : w4.cell? ⟨w.heap.size, 0, none⟩ = some (.string p.name) ∧ w4.cell? ⟨w.heap.size, 1, none⟩ = some (.slice a0 p.vars.length cap0) ∧ w4.cell? ⟨w.heap.size, 2, none⟩ = some (.slice a1 p.rules.length cap1) := ⟨box_at K4 0, box_at K4 1, box_at K4 2⟩) | (go_at_call 26; refine (validP_any _ p _ (by exact HP.out.below (box_below K4)) HIN.out HLP.out).mono ?_; rintro e w5 ⟨rfl, hb5⟩; have K5 := box_later K4 hb5; have S5 : w5.cell? ⟨w.heap.size, 0, none⟩ = some (.string p.name) ∧ w5.cell? ⟨w.heap.size, 1, none⟩ = some (.slice a0 p.vars.length cap0) ∧ w5.cell? ⟨w.heap.size, 2, none⟩ = some (.slice a1 p.rules.length cap1) := ⟨box_at K5 0, box_at K5 1, box_at K5 2⟩) | (go_at_call 23; refine (rvalidP_any _ p _ (by exact HP.out.below (box_below K5)) HIN.out HLP.out).mono ?_; rintro e w6 ⟨rfl, hb6⟩; have K6 := box_later K5 hb6; have S6 : w6.cell? ⟨w.heap.size, 0, none⟩ = some (.string p.name) ∧ w6.cell? ⟨w.heap.size, 1, none⟩ = some (.slice a0 p.vars.length cap0) ∧ w6.cell? ⟨w.heap.size, 2, none⟩ = some (.slice a1 p.rules.length cap1) := ⟨box_at K6 0, box_at K6 1, box_at K6 2⟩))
  go_wp2_with fail
  go_ret
  exact ⟨rfl, box_below K6⟩
end Go.Proofs.Ytdjhkjidakimhaa
