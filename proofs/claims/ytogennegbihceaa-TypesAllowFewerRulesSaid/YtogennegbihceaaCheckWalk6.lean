/- The walks over Kinds and typed, of the program and of the reference. -/
import Derived.Test.YtogennegbihceaaCheckWalk5
import Derived.Test.YtogennegbihceaaOwn
import Derived.Deep.RegionHeld3
set_option linter.unusedVariables false
set_option maxRecDepth 100000
namespace Go.Proofs.Ytogennegbihceaa
open Go.RowKit Go.Maps

/-- The first k numbers are laid, the rest are 0. -/
def kmix (ks : List Int) (k : Nat) : List Int := ks.take k ++ List.replicate (ks.length - k) 0
theorem kmix_zero (ks : List Int) : kmix ks 0 = List.replicate ks.length 0 := by simp [kmix]
theorem kmix_all (ks : List Int) : kmix ks ks.length = ks := by simp [kmix]
theorem kmix_length (ks : List Int) (k : Nat) (h : k ≤ ks.length) : (kmix ks k).length = ks.length := by simp [kmix]; omega
theorem kmix_step (ks : List Int) (k : Nat) (h : k < ks.length) : (kmix ks k).set k ks[k] = kmix ks (k + 1) := by
  unfold kmix
  rw [List.set_append_right _ _ (by simp; omega), List.take_succ_eq_append_getElem h, List.append_assoc]
  congr 1
  rw [List.length_take, Nat.min_eq_left (Nat.le_of_lt h), Nat.sub_self, show ks.length - k = (ks.length - (k + 1)) + 1 by omega, List.replicate_succ]
  rfl
theorem made_ints (n : Nat) : (madeCells (Value.int .i64 0).cells (n * 1)).toList = (List.replicate n (0 : Int)).map (.int .i64) := by
  apply List.ext_getElem
  · simp [size_madeCells]
  · intro i h1 h2
    simp [madeCells, Value.cells, Nat.mod_one]
/-- A list of numbers of the call's own. -/
def OwnInts (w0 : World) (v : Value) (ks : List Int) (n : Nat) (w : World) : Prop := w.ownsRow w0.heap.size 3 1 v n (ks.map (.int .i64)) ∧ Below w0.heap.size w0 w

set_option maxHeartbeats 8000000 in
theorem kinds_any (v : Value) (p : ProgD) (w : World) (hv : ProgOk w v p) (h6 : p.vars.length ≤ 1000) :
    Calls Try.prog 26 #[v] w fun e w' => ∃ kv, e = .returned kv ∧ Ints .i64 w' kv (kindsOf p) ∧ Below w.heap.size w w' := by
  obtain ⟨vv, rv, rfl, hvv, hrv⟩ := hv
  obtain ⟨a0, cap0, rfl, i1, i2, i3⟩ := hvv.open
  obtain ⟨a1, cap1, rfl, _, _, _⟩ := hrv.open
  have HVC := Lib.hid i3
  obtain ⟨i0, hi, hz0, hz1, hz2⟩ := info_parts infoInt
  have Hi := Lib.hid hi
  have Hz0 := Lib.hid hz0
  have Hz1 := Lib.hid hz1
  have Hz2 := Lib.hid hz2
  have HKL := Lib.hid (show (kindsOf p).length = p.vars.length by simp [kindsOf])
  clear hi hz0 hz1 hz2 i3 hvv hrv
  go_enter Try.func26, Try.ntmps26
  go_wp2_with (at_make; refine wpList_make_full _ rfl _ _ 44 rfl (w.heap.size + 1) 3 i0 (.int .i64 0) 1 Try.underlying44 Hi.out Hz0.out Hz1.out .i64 .i64 _ _ p.vars.length rfl rfl rfl rfl (by rw [Hz2.out]; omega) (by unfold maxLen; omega) (by simp) ?_; intro w1 hown hgrow; have hb1 : Below (w.heap.size + 1) (w.alloc (.cells #[.string p.name, .slice a0 p.vars.length cap0, .slice a1 p.rules.length cap1] 25)) w1 := (Below.refl _ _).grown hgrow (by simp) (by simp); have hbox := box_at hb1 1; simp at hbox)
  have HM := Lib.hid (show (w1.ownsRow (w.heap.size + 1) 3 1 (.slice (some ⟨w.heap.size + 1, 0, none⟩) p.vars.length p.vars.length) p.vars.length ((kmix (kindsOf p) 0).map (.int .i64))) by
    rw [made_ints, ← HKL.out, ← kmix_zero] at hown
    rw [HKL.out] at hown
    simpa using hown)
  clear hown hgrow hbox
  go_loopw [4, 5, 13] (fun _ _ i wr => ∃ k : Nat, k ≤ p.vars.length ∧ i = .int .i64 k ∧ Hid (wr.ownsRow (w.heap.size + 1) 3 1 (.slice (some ⟨w.heap.size + 1, 0, none⟩) p.vars.length p.vars.length) p.vars.length ((kmix (kindsOf p) k).map (.int .i64))) ∧ Hid (Below (w.heap.size + 1) (w.alloc (.cells #[.string p.name, .slice a0 p.vars.length cap0, .slice a1 p.rules.length cap1] 25)) wr)) (fun _ _ i _ => p.vars.length - (intOf i).toNat)
  case atStart => exact ⟨0, by omega, rfl, HM, hb1⟩
  case round =>
    clear HM hb1
    obtain ⟨k, hk, rfl, hown, hbel⟩ := hrel
    have hbw := box_below hbel.out
    have hbs := box_size hbel.out
    by_cases hlt : k < p.vars.length
    · obtain ⟨g, o, rfl, hg, hc⟩ := HVC.out (by omega)
      obtain ⟨x, hx⟩ : ∃ x, p.vars[k]? = some x := ⟨_, List.getElem?_eq_getElem hlt⟩
      obtain ⟨c0, c1, c2, c3, c4, c5⟩ := hc k x hx
      rw [← hbw.cell (p := ⟨g, _, none⟩) hg] at c0 c1 c2 c3 c4 c5
      have hlk : k < (kindsOf p).length := by rw [HKL.out]; exact hlt
      have hkx : (kindsOf p)[k] = x.kind := by
        obtain ⟨_, h2⟩ := List.getElem?_eq_some_iff.1 hx
        simp [kindsOf, h2]
      have HST := Lib.hid (show ((kmix (kindsOf p) k).map (Value.int .i64)).set k (.int .i64 x.kind) = (kmix (kindsOf p) (k + 1)).map (.int .i64) by rw [← kmix_step _ k hlk, hkx, List.map_set])
      have hoa := hown.out.alloc (.cells #[.string x.name, .int .i64 x.kind, .int .i64 x.lo, .int .i64 x.hi, .int .i64 x.perNode, .int .i64 x.perID] 35)
      obtain ⟨u, hu⟩ : ∃ u, (wr.alloc (.cells #[.string x.name, .int .i64 x.kind, .int .i64 x.lo, .int .i64 x.hi, .int .i64 x.perNode, .int .i64 x.perID] 35)).cell? ⟨w.heap.size + 1, k, none⟩ = some u := ⟨_, (hoa.cellAt k (by omega)).trans (List.getElem?_eq_getElem (by rw [List.length_map, kmix_length _ _ (by omega)]; exact hlk))⟩
      have hfz := hoa.frozenAt k
      have HOA := Lib.hid hoa
      have hlt1 : w.heap.size + 1 < wr.heap.size := (hown.out.lt _ rfl).2
      have hne1 : wr.heap.size ≠ w.heap.size + 1 := by omega
      clear hc hx hkx hoa
      go_wp2_with fail
      refine ⟨⟨k + 1, by omega, by go_num, ?_, ?_⟩, by simp [intOf]; omega⟩
      · have := (hown.out.stored k (.int .i64 x.kind)).1
        rw [HST.out] at this
        exact this.alloc _
      · exact (hbel.out.setCell (Nat.le_refl _) _).alloc (by simp; omega) _
    · obtain rfl : k = p.vars.length := by omega
      have HR : Hid (Ints .i64 wr (.slice (some ⟨w.heap.size + 1, 0, none⟩) p.vars.length p.vars.length) (kindsOf p)) := by
        have h1 := row_of_own hown.out
        rw [← HKL.out, kmix_all] at h1
        unfold Hid Ints
        rw [HKL.out] at *
        exact h1
      go_wp2_with fail
      go_ret
      exact ⟨_, rfl, HR.out, hbw⟩
end Go.Proofs.Ytogennegbihceaa
