/- The walk over the law TypesRefuseChanges. -/
import Derived.Test.YtdjhkjidakimhaaTypeLaw1
import Derived.Test.YtdjhkjidakimhaaTypeUse2
import Derived.Test.YtdjhkjidakimhaaCheckMath2
import Derived.Test.YtdjhkjidakimhaaChunk
import Derived.Test.YtdjhkjidakimhaaOwn3
set_option linter.unusedVariables false
namespace Go.Proofs.Ytdjhkjidakimhaa
open Go.RowKit Go.Maps

theorem infoRule : (Try.prog.info? 50).map (fun i => (i.zero, i.size, i.bytes)) = some (some (.agg #[.string ByteArray.empty, .slice none 0 0, .slice none 0 0]), 3, 64) := by kernel_rfl
theorem infoSet : (Try.prog.info? 52).map (fun i => (i.zero, i.size, i.bytes)) = some (some (.agg #[.int .i64 0, .slice none 0 0]), 2, 32) := by kernel_rfl
theorem infoVar : (Try.prog.info? 54).map (fun i => (i.zero, i.size, i.bytes)) = some (some (.agg #[.string ByteArray.empty, .int .i64 0, .int .i64 0, .int .i64 0, .int .i64 0, .int .i64 0]), 6, 56) := by kernel_rfl
theorem rule_one {w : World} {c : List Value} {r : RuleD} (h : RuleOk w c r) : ∀ u ∈ c, u.oneCell' = true := by
  obtain ⟨gv, sv, rfl, h1, h2⟩ := h
  obtain ⟨_, _, rfl, _⟩ := h1.open
  obtain ⟨_, _, rfl, _⟩ := sets_open h2
  intro u hu
  simp at hu
  rcases hu with rfl | rfl | rfl <;> rfl
theorem set_one {w : World} {c : List Value} {r : SetD} (h : SetOk w c r) : ∀ u ∈ c, u.oneCell' = true := by
  obtain ⟨gv, rfl, h1⟩ := h
  obtain ⟨_, _, rfl, _⟩ := h1.open
  intro u hu
  simp at hu
  rcases hu with rfl | rfl <;> rfl
theorem chunks_one {α : Type} {R : List Value → α → Prop} {s : Nat} {xs : List Value} {l : List α} (h : Chunks R s xs l) (h0 : 0 < s) (hR : ∀ c x, R c x → ∀ u ∈ c, u.oneCell' = true) : ∀ u ∈ xs, u.oneCell' = true := by
  intro u hu
  obtain ⟨c, x, h1, h2⟩ := h.mem h0 u hu
  exact hR c x h1 u h2
theorem box_frozen {w wr : World} {xs : Array Value} {T : TypeId} (hb : Below (w.heap.size + 1) (w.alloc (.cells xs T)) wr) (j : Nat) : wr.frozen? ⟨w.heap.size, j, none⟩ = false := by
  rw [hb.frozen (p := ⟨w.heap.size, j, none⟩) (by simp)]
  have h1 : (w.alloc (.cells xs T)).heap[w.heap.size]? = some (.cells xs T) := heap_alloc_new w _
  unfold World.frozen?
  simp only [h1]
  simp
theorem cell_alloc {W : World} {ob : Obj} {a : Addr} (h : a.block < W.heap.size) : (W.alloc ob).cell? a = W.cell? a := ((Below.refl _ _).alloc (Nat.le_refl _) ob).cell h
theorem frozen_alloc {W : World} {ob : Obj} {a : Addr} (h : a.block < W.heap.size) : (W.alloc ob).frozen? a = W.frozen? a := ((Below.refl _ _).alloc (Nat.le_refl _) ob).frozen h
theorem cell_set {W : World} {b o b' o' : Nat} {u : Value} (h : b ≠ b' ∨ o ≠ o') : (W.setCell ⟨b, o, none⟩ u).cell? ⟨b', o', none⟩ = W.cell? ⟨b', o', none⟩ := World.cell?_setCell_other _ _ _ _ (by intro h1; cases h1; omega)
theorem cell_new (W : World) (xs : Array Value) (T : TypeId) (n j : Nat) (h : n = W.heap.size) : (W.alloc (.cells xs T)).cell? ⟨n, j, none⟩ = xs[j]? := by
  subst h
  have h1 : (W.alloc (.cells xs T)).heap[W.heap.size]? = some (.cells xs T) := heap_alloc_new W _
  unfold World.cell?
  simp only [h1]
  simp
theorem var_one (x : VarD) : ∀ u ∈ varCells x, u.oneCell' = true := by
  intro u hu
  simp [varCells] at hu
  rcases hu with rfl | rfl | rfl | rfl | rfl | rfl <;> rfl
theorem vars_one (l : List VarD) : ∀ u ∈ l.flatMap varCells, u.oneCell' = true := by
  intro u hu
  rw [List.mem_flatMap] at hu
  obtain ⟨x, _, h⟩ := hu
  exact var_one x u h
theorem own_set {w : World} {B e size n g o : Nat} {u : Value} {xs : List Value} {b : Nat} (hne : g ≠ b) (h : w.ownsRow B e size (.slice (some ⟨b, 0, none⟩) n o) n xs) {j : Nat} : (w.setCell ⟨g, j, none⟩ u).ownsRow B e size (.slice (some ⟨b, 0, none⟩) n o) n xs :=
  h.kept (w' := w.setCell ⟨g, j, none⟩ u) (row := some g) ⟨rfl, rfl, rfl, by simp, fun k _ hk => heap_setCell_other w ⟨g, j, none⟩ k _ (fun e => hk (by simp [e]))⟩ (.inr (by simp [Value.ownBlock]; omega))
theorem rowcell {w : World} {B e size g n cap : Nat} {xs : List Value} (h : w.ownsRow B e size (.slice (some ⟨g, 0, none⟩) n cap) n xs) (j : Nat) (hj : j < n * size) : ∃ u, w.cell? ⟨g, j, none⟩ = some u :=
  ⟨_, (h.cellAt j hj).trans (List.getElem?_eq_getElem (by rw [h.1]; exact hj))⟩
set_option maxHeartbeats 16000000 in
theorem walk_TypesRefuseChanges (v : Value) (p : ProgD) (which : Int) (w : World) (hv0 : ProgOk w v p ∧ ProgIn p) (hw0 : (Lit.int .i64 which).wf = true) :
    Calls Try.prog 8 #[v, .int .i64 which] w fun e w' => e = .returned (.bool true) ∧ Below w.heap.size w w' := by
  obtain ⟨hv, hin⟩ := hv0
  have HW := Lib.hid (wf64 hw0)
  have HP := Lib.hid hv
  have HIN := Lib.hid hin
  obtain ⟨vv, rv, rfl, hvv, hrv⟩ := hv
  obtain ⟨a0, cap0, rfl, i1, i2, i3⟩ := hvv.open
  obtain ⟨a1, cap1, rfl, j1, j2, j3⟩ := hrv.open
  have HVV := Lib.hid hvv
  have HRV := Lib.hid hrv
  have HRC := Lib.hid j3
  have HVC := Lib.hid i3
  clear i3 j3 hvv hrv hin hw0
  rcases Bool.eq_false_or_eq_true (lightB p) with ql | ql
  rotate_left
  · go_enter Try.func8, Try.ntmps8
    go_wp2_with fail
    refine (lightP_any _ p _ (by exact box_ok HP.out) HIN.out).mono ?_
    rintro e w1 ⟨rfl, hb1⟩
    go_wp2_with (go_at_call 12; refine (awake_any _).mono ?_; rintro e w2 ⟨rfl, hb2⟩)
    go_ret
    exact ⟨rfl, bthen (box_below (by simpa using hb1)) hb2⟩
  have HLP := Lib.hid (light_of ql)
  by_cases hck : checkF p = 0
  rotate_left
  · have b0 : (checkF p == 0) = false := by simpa using hck
    go_enter Try.func8, Try.ntmps8
    go_wp2_with fail
    refine (lightP_any _ p _ (by exact box_ok HP.out) HIN.out).mono ?_
    rintro e w1 ⟨rfl, hb1'⟩
    have hb1 : Below (w.heap.size + 1) (w.alloc (.cells #[.string p.name, .slice a0 p.vars.length cap0, .slice a1 p.rules.length cap1] 46)) w1 := by simpa using hb1'
    have c0 := box_at hb1 0
    have c1 := box_at hb1 1
    have c2 := box_at hb1 2
    simp at c0 c1 c2
    clear hb1'
    go_wp2_with fail
    refine (rvalidP_any _ p _ (by exact HP.out.below (box_below hb1)) HIN.out HLP.out).mono ?_
    rintro e w2 ⟨rfl, hb2⟩
    go_wp2_with (go_at_call 12; refine (awake_any _).mono ?_; rintro e w3 ⟨rfl, hb3⟩)
    go_ret
    exact ⟨rfl, bthen (box_below (box_later hb1 hb2)) hb3⟩
  have b0 : (checkF p == 0) = true := by simpa using hck
  by_cases hr0 : p.rules.length = 0
  · have b1 : ((p.rules.length : Int) == 0) = true := by simp [hr0]
    have hr0' : p.rules.length < 1 := by omega
    clear hr0
    go_enter Try.func8, Try.ntmps8
    go_wp2_with fail
    refine (lightP_any _ p _ (by exact box_ok HP.out) HIN.out).mono ?_
    rintro e w1 ⟨rfl, hb1'⟩
    have hb1 : Below (w.heap.size + 1) (w.alloc (.cells #[.string p.name, .slice a0 p.vars.length cap0, .slice a1 p.rules.length cap1] 46)) w1 := by simpa using hb1'
    have c0 := box_at hb1 0
    have c1 := box_at hb1 1
    have c2 := box_at hb1 2
    simp at c0 c1 c2
    clear hb1'
    go_wp2_with fail
    refine (rvalidP_any _ p _ (by exact HP.out.below (box_below hb1)) HIN.out HLP.out).mono ?_
    rintro e w2 ⟨rfl, hb2⟩
    have K2 := box_later hb1 hb2
    have d2 := box_at K2 2
    simp at d2
    go_wp2_with (go_at_call 12; refine (awake_any _).mono ?_; rintro e w3 ⟨rfl, hb3⟩)
    go_ret
    exact ⟨rfl, bthen (box_below K2) hb3⟩
  have b1 : ((p.rules.length : Int) == 0) = false := beq_eq_false_iff_ne.2 (by omega)
  have hrp : 0 < p.rules.length := by omega
  have hgood := check_good hck
  have hvp : 0 < p.vars.length := by have := hgood.lim; omega
  have hv6 : p.vars.length ≤ 6 := by have := hgood.lim; omega
  have hr12 : p.rules.length ≤ 12 := by have := hgood.lim; omega
  have HGOOD := Lib.hid hgood
  have HCK := Lib.hid hck
  -- the rule that is changed
  obtain ⟨i, hi⟩ := Int.eq_ofNat_of_zero_le (Int.emod_nonneg which (show (p.rules.length : Int) ≠ 0 by omega))
  have hil : i < p.rules.length := by have := Int.emod_lt_of_pos which (show (0 : Int) < p.rules.length by omega); omega
  have HI := Lib.hid hi
  clear hr0 hgood hck hi
  obtain ⟨g, o, rfl, hg, hc⟩ := HRC.out hrp
  obtain ⟨r, hr⟩ : ∃ r, p.rules[i]? = some r := ⟨_, List.getElem?_eq_getElem hil⟩
  obtain ⟨gv, sv, ht, hs, e0, e1, e2⟩ := hc i r hr
  have HGR : Hid (p.rules[i] = r) := (List.getElem?_eq_some_iff.1 hr).2
  have hform : formedB r p.vars.length = true := List.all_eq_true.1 HGOOD.out.form r (List.mem_of_getElem? hr)
  have hs0 : 0 < r.sets.length ∧ r.sets.length ≤ 6 := by
    rw [formedB_eq] at hform
    simp only [Bool.and_eq_true, decide_eq_true_eq] at hform
    omega
  obtain ⟨hs0, hs6⟩ := hs0
  have HT := Lib.hid ht
  have HS := Lib.hid hs
  obtain ⟨ga, gcap, rfl, _, _, _⟩ := ht.open
  obtain ⟨sa, scap, rfl, sl1, sl2, s3⟩ := sets_open hs
  obtain ⟨sg, so, rfl, hsg, hsc⟩ := s3 hs0
  obtain ⟨s0, hs0e⟩ : ∃ s, r.sets[0]? = some s := ⟨_, List.getElem?_eq_getElem hs0⟩
  obtain ⟨tv, htv, f0, f1⟩ := hsc 0 s0 hs0e
  have HTV := Lib.hid htv
  obtain ⟨ta, tcap, rfl, _, _, _⟩ := htv.open
  have E0 := Lib.hid e0
  have E1 := Lib.hid e1
  have E2 := Lib.hid e2
  have F0 := Lib.hid f0
  have F1 := Lib.hid f1
  obtain ⟨i0, hi0, hz0, hz1, hz2⟩ := info_parts infoRule
  have Ri := Lib.hid hi0
  have Rz0 := Lib.hid hz0
  have Rz1 := Lib.hid hz1
  have Rz2 := Lib.hid hz2
  clear hc ht hs s3 hsc htv e0 e1 e2 f0 f1 hform hr hi0 hz0 hz1 hz2
  obtain ⟨vg, vo, rfl, hvg, hvc⟩ := HVC.out hvp
  obtain ⟨x0, hx0⟩ : ∃ x, p.vars[0]? = some x := ⟨_, List.getElem?_eq_getElem hvp⟩
  have HVX := Lib.hid (hvc 0 x0 hx0)
  have HX0 : Hid (p.vars[0] = x0) := (List.getElem?_eq_some_iff.1 hx0).2
  clear hvc hx0
  obtain ⟨rx, hrow, hchunks⟩ := seq_chunks HRV.out
  have HROW := Lib.hid hrow
  have HCH := Lib.hid hchunks
  clear hrow hchunks
  go_enter Try.func8, Try.ntmps8
  go_wp2_with fail
  refine (lightP_any _ p _ (by exact box_ok HP.out) HIN.out).mono ?_
  rintro e w1 ⟨rfl, hb1'⟩
  have hb1 : Below (w.heap.size + 1) (w.alloc (.cells #[.string p.name, .slice (some ⟨vg, vo, none⟩) p.vars.length cap0, .slice (some ⟨g, o, none⟩) p.rules.length cap1] 46)) w1 := by simpa using hb1'
  have c0 := box_at hb1 0
  have c1 := box_at hb1 1
  have c2 := box_at hb1 2
  simp at c0 c1 c2
  clear hb1'
  go_wp2_with fail
  refine (rvalidP_any _ p _ (by exact HP.out.below (box_below hb1)) HIN.out HLP.out).mono ?_
  rintro e w2 ⟨rfl, hb2⟩
  have K2 := box_later hb1 hb2
  have d0 := box_at K2 0
  have d1 := box_at K2 1
  have d2 := box_at K2 2
  simp at d0 d1 d2
  have hbs2 := box_size K2
  have hbw2 := box_below K2
  have hlt2 : w.heap.size < w2.heap.size := by omega
  have hne2 : w.heap.size ≠ w2.heap.size := by omega
  have HR2 := Lib.hid (HROW.out.below hbw2)
  clear c0 c1 c2 hb2 hb1
  have hg2 : g < w2.heap.size := by omega
  have hsg2 : sg < w2.heap.size := by omega
  have HONE := Lib.hid (chunks_one HCH.out (by omega) (fun c x h => rule_one h))
  go_wp2_with (first | (go_at_call 19; refine (mod_any _ _ _ HW.out (by omega) (by omega)).mono ?_; rintro e w3 ⟨rfl, rfl⟩; rw [HI.out]) | (at_builtin; refine wpList_append_row1 _ rfl _ _ 44 rfl (w2.heap.size + 1) 50 i0 (.agg #[.string ByteArray.empty, .slice none 0 0, .slice none 0 0]) 3 64 Try.underlying44 Ri.out Rz0.out Rz1.out Rz2.out rfl (by decide) (.slice none 0 0) 0 [] rfl (World.ownsRow_nil _ _ _ _) _ p.rules.length rx rfl (by exact HR2.out.below ((Below.refl _ _).alloc (Nat.le_refl _) _)) HONE.out hrp (by unfold maxLen; omega) (by omega) (by simp) ?_; intro gR capR w4 hown hgrow hat hlt4; have GR := Lib.hid hgrow; have OW := Lib.hid hown; clear hown hgrow; have HB4 : Below (w2.heap.size + 1) (w2.alloc (.cells #[.string p.name, .slice (some ⟨vg, vo, none⟩) p.vars.length cap0, .slice (some ⟨g, o, none⟩) p.rules.length cap1] 46)) w4 := (Below.refl _ _).grown GR.out (by simp) (by simp [Value.ownBlock]); have K4 := K2.trans ((box_below HB4).mono hbs2); have hbw4 := box_below K4; have q0 := box_at HB4 0; have q1 := box_at HB4 1; have q2 := box_at HB4 2; have q3 := box_frozen HB4 2; have p0 := box_at K4 0; have p1 := box_at K4 1; have p2 := box_at K4 2; have r0 := (hbw4.cell (p := ⟨g, _, none⟩) hg).trans E0.out; have r1 := (hbw4.cell (p := ⟨g, _, none⟩) hg).trans E1.out; have r2 := (hbw4.cell (p := ⟨g, _, none⟩) hg).trans E2.out; have hbs4 := box_size HB4; have hg4 : g ≠ w2.heap.size := (by omega); have hwg4 : w2.heap.size < w4.heap.size := (by omega); simp at q0 q1 q2 p0 p1 p2; clear d0 d1 d2))
  simp only [Nat.zero_add, List.nil_append] at OW
  have hgR : w2.heap.size + 1 ≤ gR := (OW.out.lt gR rfl).1
  have hgR4 : gR < w4.heap.size := (OW.out.lt gR rfl).2
  obtain ⟨W5, hW5⟩ : ∃ W5, W5 = (w4.setCell ⟨w2.heap.size, 2, none⟩ (.slice (some ⟨gR, 0, none⟩) p.rules.length capR)).alloc (.cells #[.string r.name, .slice ga r.guard.length gcap, .slice (some ⟨sg, so, none⟩) r.sets.length scap] 50) := ⟨_, rfl⟩
  rw [← hW5]
  have hz5 : W5.heap.size = w4.heap.size + 1 := by rw [hW5]; simp
  have hb5 : Below w.heap.size w W5 := by rw [hW5]; exact (hbw4.setCell (show w.heap.size ≤ w2.heap.size by omega) _).alloc (by simp; omega) _
  have K5 : Below (w.heap.size + 1) (w.alloc (.cells #[.string p.name, .slice (some ⟨vg, vo, none⟩) p.vars.length cap0, .slice (some ⟨g, o, none⟩) p.rules.length cap1] 46)) W5 := by rw [hW5]; exact (K4.setCell (show w.heap.size + 1 ≤ w2.heap.size by omega) _).alloc (by simp; omega) _
  have y0 : W5.cell? ⟨w2.heap.size, 0, none⟩ = some (.string p.name) := by rw [hW5, cell_alloc (by simpa using hwg4), cell_set (.inr (by omega))]; exact q0
  have y1 : W5.cell? ⟨w2.heap.size, 1, none⟩ = some (.slice (some ⟨vg, vo, none⟩) p.vars.length cap0) := by rw [hW5, cell_alloc (by simpa using hwg4), cell_set (.inr (by omega))]; exact q1
  have y2 : W5.cell? ⟨w2.heap.size, 2, none⟩ = some (.slice (some ⟨gR, 0, none⟩) p.rules.length capR) := by rw [hW5, cell_alloc (by simpa using hwg4)]; exact World.cell?_setCell_same _ _ _ q2
  have z0 : W5.cell? ⟨w4.heap.size, 0, none⟩ = some (.string r.name) := by rw [hW5, cell_new _ _ _ _ _ (by simp)]; rfl
  have z1 : W5.cell? ⟨w4.heap.size, 1, none⟩ = some (.slice ga r.guard.length gcap) := by rw [hW5, cell_new _ _ _ _ _ (by simp)]; rfl
  have z2 : W5.cell? ⟨w4.heap.size, 2, none⟩ = some (.slice (some ⟨sg, so, none⟩) r.sets.length scap) := by rw [hW5, cell_new _ _ _ _ _ (by simp)]; rfl
  have f0 : W5.cell? ⟨sg, so, none⟩ = some (.int .i64 s0.var) := by rw [hb5.cell (p := ⟨sg, so, none⟩) hsg]; have := F0.out; simpa using this
  have f1 : W5.cell? ⟨sg, so + 1, none⟩ = some (.slice ta s0.val.length tcap) := by rw [hb5.cell (p := ⟨sg, so + 1, none⟩) hsg]; have := F1.out; simpa using this
  have OW5 : Hid (W5.ownsRow (w2.heap.size + 1) 50 3 (.slice (some ⟨gR, 0, none⟩) p.rules.length capR) p.rules.length rx) := by
    rw [hW5]
    exact (OW.out.kept (w' := w4.setCell ⟨w2.heap.size, 2, none⟩ (.slice (some ⟨gR, 0, none⟩) p.rules.length capR)) (row := some w2.heap.size) ⟨rfl, rfl, rfl, by simp, fun k _ hk => heap_setCell_other w4 ⟨w2.heap.size, 2, none⟩ k _ (fun e => hk (by simp [e]))⟩ (.inr (by simp [Value.ownBlock]; omega))).alloc _
  have SA : W5.cell? ⟨w2.heap.size, 2, none⟩ = some (.slice (some ⟨gR, 0, none⟩) p.rules.length capR) ∧ W5.cell? ⟨w4.heap.size, 0, none⟩ = some (.string r.name) ∧ W5.cell? ⟨w4.heap.size, 1, none⟩ = some (.slice ga r.guard.length gcap) ∧ W5.cell? ⟨w4.heap.size, 2, none⟩ = some (.slice (some ⟨sg, so, none⟩) r.sets.length scap) ∧ W5.cell? ⟨sg, so, none⟩ = some (.int .i64 s0.var) ∧ W5.cell? ⟨sg, so + 1, none⟩ = some (.slice ta s0.val.length tcap) := ⟨y2, z0, z1, z2, f0, f1⟩
  obtain ⟨k0, hk0, hx0, hx1, hx2⟩ := info_parts infoSet
  have Si := Lib.hid hk0
  have Sz0 := Lib.hid hx0
  have Sz1 := Lib.hid hx1
  have Sz2 := Lib.hid hx2
  clear hk0 hx0 hx1 hx2 hW5 q0 q1 q2 q3 p0 p1 p2 r0 r1 r2 OW K4 HB4 hbw4 K2 hbw2 GR hat
  obtain ⟨sx, hsrow, hsch⟩ := seq_chunks HS.out
  have HSR := Lib.hid hsrow
  have HSCH := Lib.hid hsch
  have HSONE := Lib.hid (chunks_one hsch (by omega) (fun c x h => set_one h))
  clear hsrow hsch
  have l5a : w2.heap.size < W5.heap.size := by omega
  have l5b : w4.heap.size < W5.heap.size := by omega
  have l5c : sg < W5.heap.size := by omega
  have n1 : gR ≠ w2.heap.size := by omega
  have n2 : gR ≠ w4.heap.size := by omega
  have n3 : gR ≠ sg := by omega
  have HSR5 : Hid (Row W5.drew (.slice (some ⟨sg, so, none⟩) r.sets.length scap) 2 r.sets.length sx) := HSR.out.below hb5.drew
  have B5B : Below W5.heap.size W5 (W5.alloc (.cells #[.int .i64 s0.var, .slice ta s0.val.length tcap] 52)) := (Below.refl _ _).alloc (Nat.le_refl _) _
  have HSR5B : Hid (Row (W5.alloc (.cells #[.int .i64 s0.var, .slice ta s0.val.length tcap] 52)).drew (.slice (some ⟨sg, so, none⟩) r.sets.length scap) 2 r.sets.length sx) := HSR.out.below (bthen hb5 B5B).drew
  have hnoneB : ∀ k, (none : Option Nat) = some k → (W5.alloc (.cells #[.int .i64 s0.var, .slice ta s0.val.length tcap] 52)).heap.size ≤ k := by simp
  have SAL0 : ∀ ob : Obj, (W5.alloc ob).cell? ⟨w2.heap.size, 2, none⟩ = some (.slice (some ⟨gR, 0, none⟩) p.rules.length capR) ∧ (W5.alloc ob).cell? ⟨w4.heap.size, 0, none⟩ = some (.string r.name) ∧ (W5.alloc ob).cell? ⟨w4.heap.size, 1, none⟩ = some (.slice ga r.guard.length gcap) ∧ (W5.alloc ob).cell? ⟨w4.heap.size, 2, none⟩ = some (.slice (some ⟨sg, so, none⟩) r.sets.length scap) ∧ (W5.alloc ob).cell? ⟨sg, so, none⟩ = some (.int .i64 s0.var) ∧ (W5.alloc ob).cell? ⟨sg, so + 1, none⟩ = some (.slice ta s0.val.length tcap) := fun ob => ⟨(((Below.refl W5.heap.size W5).alloc (Nat.le_refl _) ob).cell (p := ⟨_, _, none⟩) l5a).trans y2, (((Below.refl W5.heap.size W5).alloc (Nat.le_refl _) ob).cell (p := ⟨_, _, none⟩) l5b).trans z0, (((Below.refl W5.heap.size W5).alloc (Nat.le_refl _) ob).cell (p := ⟨_, _, none⟩) l5b).trans z1, (((Below.refl W5.heap.size W5).alloc (Nat.le_refl _) ob).cell (p := ⟨_, _, none⟩) l5b).trans z2, (((Below.refl W5.heap.size W5).alloc (Nat.le_refl _) ob).cell (p := ⟨_, _, none⟩) l5c).trans f0, (((Below.refl W5.heap.size W5).alloc (Nat.le_refl _) ob).cell (p := ⟨_, _, none⟩) l5c).trans f1⟩
  have SAD : W5.drew.cell? ⟨w2.heap.size, 2, none⟩ = some (.slice (some ⟨gR, 0, none⟩) p.rules.length capR) ∧ W5.drew.cell? ⟨w4.heap.size, 0, none⟩ = some (.string r.name) ∧ W5.drew.cell? ⟨w4.heap.size, 1, none⟩ = some (.slice ga r.guard.length gcap) ∧ W5.drew.cell? ⟨w4.heap.size, 2, none⟩ = some (.slice (some ⟨sg, so, none⟩) r.sets.length scap) ∧ W5.drew.cell? ⟨sg, so, none⟩ = some (.int .i64 s0.var) ∧ W5.drew.cell? ⟨sg, so + 1, none⟩ = some (.slice ta s0.val.length tcap) := SA
  have SALD : ∀ ob : Obj, (W5.alloc ob).drew.cell? ⟨w2.heap.size, 2, none⟩ = some (.slice (some ⟨gR, 0, none⟩) p.rules.length capR) ∧ (W5.alloc ob).drew.cell? ⟨w4.heap.size, 0, none⟩ = some (.string r.name) ∧ (W5.alloc ob).drew.cell? ⟨w4.heap.size, 1, none⟩ = some (.slice ga r.guard.length gcap) ∧ (W5.alloc ob).drew.cell? ⟨w4.heap.size, 2, none⟩ = some (.slice (some ⟨sg, so, none⟩) r.sets.length scap) ∧ (W5.alloc ob).drew.cell? ⟨sg, so, none⟩ = some (.int .i64 s0.var) ∧ (W5.alloc ob).drew.cell? ⟨sg, so + 1, none⟩ = some (.slice ta s0.val.length tcap) := SAL0
  have HONE2 : ∀ u ∈ [Value.int .i64 s0.var, .slice ta s0.val.length tcap], u.oneCell' = true := by simp [Value.oneCell']
  have hone : (1 : Nat) ≤ 9223372036854775807 := by omega
  have hlen6 : r.sets.length ≤ maxLen := by unfold maxLen; omega
  have hlen6b : r.sets.length * 32 ≤ 140737488355328 := by omega
  have hlen7 : r.sets.length + 1 ≤ maxLen := by unfold maxLen; omega
  have hlen7b : (r.sets.length + 1) * 32 ≤ 140737488355328 := by omega
  have hnone : ∀ k, (none : Option Nat) = some k → W5.heap.size ≤ k := by simp
  have hi30 : i * 3 < p.rules.length * 3 := by omega
  have hi31 : i * 3 + 1 < p.rules.length * 3 := by omega
  have hi32 : i * 3 + 2 < p.rules.length * 3 := by omega
  have i1 : (0 : Int) ≤ (i : Int) := by omega
  have i2 : (i : Int) < (p.rules.length : Int) := by omega
  have HZ5 := Lib.hid hz5
  clear hz5
  go_region_held3 (fun w' => w'.cell? ⟨w2.heap.size, 2, none⟩ = some (.slice (some ⟨gR, 0, none⟩) p.rules.length capR) ∧ w'.cell? ⟨w4.heap.size, 0, none⟩ = some (.string r.name) ∧ w'.cell? ⟨w4.heap.size, 1, none⟩ = some (.slice ga r.guard.length gcap) ∧ w'.cell? ⟨w4.heap.size, 2, none⟩ = some (.slice (some ⟨sg, so, none⟩) r.sets.length scap) ∧ w'.cell? ⟨sg, so, none⟩ = some (.int .i64 s0.var) ∧ w'.cell? ⟨sg, so + 1, none⟩ = some (.slice ta s0.val.length tcap)) (first | (with_reducible exact SB) | (with_reducible exact SA2) | (with_reducible exact SA) | (with_reducible exact SAL _) | (with_reducible exact SBS _ _ _) | (with_reducible exact SAL0 _) | (with_reducible exact SAD) | (with_reducible exact SALD _))
    (first | (refine step_append_row1 (wA.alloc (.cells #[.int .i64 s0.var, .slice ta s0.val.length tcap] 52)) (by rfl) (.tmp 49) (.tmp 54) 48 (by rfl) W5.heap.size 52 k0 (.agg #[.int .i64 0, .slice none 0 0]) 2 32 Try.underlying48 Si.out Sz0.out Sz1.out Sz2.out rfl (by decide) (.slice (some ⟨gA, 0, none⟩) r.sets.length capA) r.sets.length sx (by rfl) (hownA.alloc _) (.slice (some ⟨wA.heap.size, 0, none⟩) 1 1) 1 [.int .i64 s0.var, .slice ta s0.val.length tcap] (by rfl) (row_alloc wA [.int .i64 s0.var, .slice ta s0.val.length tcap] _ 2 1 hone rfl) HONE2 Nat.one_pos hlen7 hlen7b hbase2 ?_; intro gB capB wB hownB hgrowB _ hltB; have BB : Below W5.heap.size W5 wB := (((BA.alloc BA.size _).grown hgrowB hbase2 (own_ge hownA))); have SB : wB.cell? ⟨w2.heap.size, 2, none⟩ = some (.slice (some ⟨gR, 0, none⟩) p.rules.length capR) ∧ wB.cell? ⟨w4.heap.size, 0, none⟩ = some (.string r.name) ∧ wB.cell? ⟨w4.heap.size, 1, none⟩ = some (.slice ga r.guard.length gcap) ∧ wB.cell? ⟨w4.heap.size, 2, none⟩ = some (.slice (some ⟨sg, so, none⟩) r.sets.length scap) ∧ wB.cell? ⟨sg, so, none⟩ = some (.int .i64 s0.var) ∧ wB.cell? ⟨sg, so + 1, none⟩ = some (.slice ta s0.val.length tcap) := ⟨(BB.cell (p := ⟨_, _, none⟩) l5a).trans y2, (BB.cell (p := ⟨_, _, none⟩) l5b).trans z0, (BB.cell (p := ⟨_, _, none⟩) l5b).trans z1, (BB.cell (p := ⟨_, _, none⟩) l5b).trans z2, (BB.cell (p := ⟨_, _, none⟩) l5c).trans f0, (BB.cell (p := ⟨_, _, none⟩) l5c).trans f1⟩; have SBS : ∀ x0 x1 x2 : Value, (((wB.setCell ⟨gR, i * 3, none⟩ x0).setCell ⟨gR, i * 3 + 1, none⟩ x1).setCell ⟨gR, i * 3 + 2, none⟩ x2).cell? ⟨w2.heap.size, 2, none⟩ = some (.slice (some ⟨gR, 0, none⟩) p.rules.length capR) ∧ (((wB.setCell ⟨gR, i * 3, none⟩ x0).setCell ⟨gR, i * 3 + 1, none⟩ x1).setCell ⟨gR, i * 3 + 2, none⟩ x2).cell? ⟨w4.heap.size, 0, none⟩ = some (.string r.name) ∧ (((wB.setCell ⟨gR, i * 3, none⟩ x0).setCell ⟨gR, i * 3 + 1, none⟩ x1).setCell ⟨gR, i * 3 + 2, none⟩ x2).cell? ⟨w4.heap.size, 1, none⟩ = some (.slice ga r.guard.length gcap) ∧ (((wB.setCell ⟨gR, i * 3, none⟩ x0).setCell ⟨gR, i * 3 + 1, none⟩ x1).setCell ⟨gR, i * 3 + 2, none⟩ x2).cell? ⟨w4.heap.size, 2, none⟩ = some (.slice (some ⟨sg, so, none⟩) r.sets.length scap) ∧ (((wB.setCell ⟨gR, i * 3, none⟩ x0).setCell ⟨gR, i * 3 + 1, none⟩ x1).setCell ⟨gR, i * 3 + 2, none⟩ x2).cell? ⟨sg, so, none⟩ = some (.int .i64 s0.var) ∧ (((wB.setCell ⟨gR, i * 3, none⟩ x0).setCell ⟨gR, i * 3 + 1, none⟩ x1).setCell ⟨gR, i * 3 + 2, none⟩ x2).cell? ⟨sg, so + 1, none⟩ = some (.slice ta s0.val.length tcap) := (fun x0 x1 x2 => ⟨((cell_set (.inl n1)).trans ((cell_set (.inl n1)).trans (cell_set (.inl n1)))).trans SB.1, ((cell_set (.inl n2)).trans ((cell_set (.inl n2)).trans (cell_set (.inl n2)))).trans SB.2.1, ((cell_set (.inl n2)).trans ((cell_set (.inl n2)).trans (cell_set (.inl n2)))).trans SB.2.2.1, ((cell_set (.inl n2)).trans ((cell_set (.inl n2)).trans (cell_set (.inl n2)))).trans SB.2.2.2.1, ((cell_set (.inl n3)).trans ((cell_set (.inl n3)).trans (cell_set (.inl n3)))).trans SB.2.2.2.2.1, ((cell_set (.inl n3)).trans ((cell_set (.inl n3)).trans (cell_set (.inl n3)))).trans SB.2.2.2.2.2⟩); have HOB := own_below OW5.out BB; have t0 := HOB.frozenAt (i * 3); have t1 := HOB.frozenAt (i * 3 + 1); have t2 := HOB.frozenAt (i * 3 + 2); obtain ⟨u0, v0⟩ := rowcell HOB (i * 3) hi30; obtain ⟨u1, v1⟩ := rowcell HOB (i * 3 + 1) hi31; obtain ⟨u2, v2⟩ := rowcell HOB (i * 3 + 2) hi32) | (refine step_append_row1 wA (by rfl) (.tmp 49) (.tmp 54) 48 (by rfl) W5.heap.size 52 k0 (.agg #[.int .i64 0, .slice none 0 0]) 2 32 Try.underlying48 Si.out Sz0.out Sz1.out Sz2.out rfl (by decide) (.slice (some ⟨gA, 0, none⟩) r.sets.length capA) r.sets.length sx (by rfl) hownA (.slice (some ⟨W5.heap.size, 0, none⟩) 1 1) 1 [.int .i64 s0.var, .slice ta s0.val.length tcap] (by rfl) hrowB HONE2 Nat.one_pos hlen7 hlen7b BA.size ?_; intro gB capB wB hownB hgrowB _ hltB; have BB : Below W5.heap.size W5 wB := ((BA.grown hgrowB BA.size (own_ge hownA))); have SB : wB.cell? ⟨w2.heap.size, 2, none⟩ = some (.slice (some ⟨gR, 0, none⟩) p.rules.length capR) ∧ wB.cell? ⟨w4.heap.size, 0, none⟩ = some (.string r.name) ∧ wB.cell? ⟨w4.heap.size, 1, none⟩ = some (.slice ga r.guard.length gcap) ∧ wB.cell? ⟨w4.heap.size, 2, none⟩ = some (.slice (some ⟨sg, so, none⟩) r.sets.length scap) ∧ wB.cell? ⟨sg, so, none⟩ = some (.int .i64 s0.var) ∧ wB.cell? ⟨sg, so + 1, none⟩ = some (.slice ta s0.val.length tcap) := ⟨(BB.cell (p := ⟨_, _, none⟩) l5a).trans y2, (BB.cell (p := ⟨_, _, none⟩) l5b).trans z0, (BB.cell (p := ⟨_, _, none⟩) l5b).trans z1, (BB.cell (p := ⟨_, _, none⟩) l5b).trans z2, (BB.cell (p := ⟨_, _, none⟩) l5c).trans f0, (BB.cell (p := ⟨_, _, none⟩) l5c).trans f1⟩; have SBS : ∀ x0 x1 x2 : Value, (((wB.setCell ⟨gR, i * 3, none⟩ x0).setCell ⟨gR, i * 3 + 1, none⟩ x1).setCell ⟨gR, i * 3 + 2, none⟩ x2).cell? ⟨w2.heap.size, 2, none⟩ = some (.slice (some ⟨gR, 0, none⟩) p.rules.length capR) ∧ (((wB.setCell ⟨gR, i * 3, none⟩ x0).setCell ⟨gR, i * 3 + 1, none⟩ x1).setCell ⟨gR, i * 3 + 2, none⟩ x2).cell? ⟨w4.heap.size, 0, none⟩ = some (.string r.name) ∧ (((wB.setCell ⟨gR, i * 3, none⟩ x0).setCell ⟨gR, i * 3 + 1, none⟩ x1).setCell ⟨gR, i * 3 + 2, none⟩ x2).cell? ⟨w4.heap.size, 1, none⟩ = some (.slice ga r.guard.length gcap) ∧ (((wB.setCell ⟨gR, i * 3, none⟩ x0).setCell ⟨gR, i * 3 + 1, none⟩ x1).setCell ⟨gR, i * 3 + 2, none⟩ x2).cell? ⟨w4.heap.size, 2, none⟩ = some (.slice (some ⟨sg, so, none⟩) r.sets.length scap) ∧ (((wB.setCell ⟨gR, i * 3, none⟩ x0).setCell ⟨gR, i * 3 + 1, none⟩ x1).setCell ⟨gR, i * 3 + 2, none⟩ x2).cell? ⟨sg, so, none⟩ = some (.int .i64 s0.var) ∧ (((wB.setCell ⟨gR, i * 3, none⟩ x0).setCell ⟨gR, i * 3 + 1, none⟩ x1).setCell ⟨gR, i * 3 + 2, none⟩ x2).cell? ⟨sg, so + 1, none⟩ = some (.slice ta s0.val.length tcap) := (fun x0 x1 x2 => ⟨((cell_set (.inl n1)).trans ((cell_set (.inl n1)).trans (cell_set (.inl n1)))).trans SB.1, ((cell_set (.inl n2)).trans ((cell_set (.inl n2)).trans (cell_set (.inl n2)))).trans SB.2.1, ((cell_set (.inl n2)).trans ((cell_set (.inl n2)).trans (cell_set (.inl n2)))).trans SB.2.2.1, ((cell_set (.inl n2)).trans ((cell_set (.inl n2)).trans (cell_set (.inl n2)))).trans SB.2.2.2.1, ((cell_set (.inl n3)).trans ((cell_set (.inl n3)).trans (cell_set (.inl n3)))).trans SB.2.2.2.2.1, ((cell_set (.inl n3)).trans ((cell_set (.inl n3)).trans (cell_set (.inl n3)))).trans SB.2.2.2.2.2⟩); have HOB := own_below OW5.out BB; have t0 := HOB.frozenAt (i * 3); have t1 := HOB.frozenAt (i * 3 + 1); have t2 := HOB.frozenAt (i * 3 + 2); obtain ⟨u0, v0⟩ := rowcell HOB (i * 3) hi30; obtain ⟨u1, v1⟩ := rowcell HOB (i * 3 + 1) hi31; obtain ⟨u2, v2⟩ := rowcell HOB (i * 3 + 2) hi32) | (refine step_append_new W5.drew (by rfl) (.const (.slice none 0 0)) (.tmp 48) 48 (by rfl) W5.heap.size 52 k0 (.agg #[.int .i64 0, .slice none 0 0]) 2 32 Try.underlying48 Si.out Sz0.out Sz1.out Sz2.out rfl (by decide) (by rfl) (.slice (some ⟨sg, so, none⟩) r.sets.length scap) r.sets.length sx (by rfl) HSR5.out HSONE.out hs0 hlen6 hlen6b (Nat.le_refl _) ?_; intro gA capA wA hownA hgrowA hatA hltA; have BA : Below W5.heap.size W5 wA := ((Below.refl W5.heap.size W5).drew.grown hgrowA (Nat.le_refl _) hnone); have hbase2 : W5.heap.size ≤ (wA.alloc (.cells #[.int .i64 s0.var, .slice ta s0.val.length tcap] 52)).heap.size := Nat.le_trans BA.size ((Below.refl wA.heap.size wA).alloc (Nat.le_refl _) _).size; have SAL : ∀ ob : Obj, (wA.alloc ob).cell? ⟨w2.heap.size, 2, none⟩ = some (.slice (some ⟨gR, 0, none⟩) p.rules.length capR) ∧ (wA.alloc ob).cell? ⟨w4.heap.size, 0, none⟩ = some (.string r.name) ∧ (wA.alloc ob).cell? ⟨w4.heap.size, 1, none⟩ = some (.slice ga r.guard.length gcap) ∧ (wA.alloc ob).cell? ⟨w4.heap.size, 2, none⟩ = some (.slice (some ⟨sg, so, none⟩) r.sets.length scap) ∧ (wA.alloc ob).cell? ⟨sg, so, none⟩ = some (.int .i64 s0.var) ∧ (wA.alloc ob).cell? ⟨sg, so + 1, none⟩ = some (.slice ta s0.val.length tcap) := (fun ob => ⟨((BA.alloc BA.size ob).cell (p := ⟨_, _, none⟩) l5a).trans y2, ((BA.alloc BA.size ob).cell (p := ⟨_, _, none⟩) l5b).trans z0, ((BA.alloc BA.size ob).cell (p := ⟨_, _, none⟩) l5b).trans z1, ((BA.alloc BA.size ob).cell (p := ⟨_, _, none⟩) l5b).trans z2, ((BA.alloc BA.size ob).cell (p := ⟨_, _, none⟩) l5c).trans f0, ((BA.alloc BA.size ob).cell (p := ⟨_, _, none⟩) l5c).trans f1⟩); have SA2 : wA.cell? ⟨w2.heap.size, 2, none⟩ = some (.slice (some ⟨gR, 0, none⟩) p.rules.length capR) ∧ wA.cell? ⟨w4.heap.size, 0, none⟩ = some (.string r.name) ∧ wA.cell? ⟨w4.heap.size, 1, none⟩ = some (.slice ga r.guard.length gcap) ∧ wA.cell? ⟨w4.heap.size, 2, none⟩ = some (.slice (some ⟨sg, so, none⟩) r.sets.length scap) ∧ wA.cell? ⟨sg, so, none⟩ = some (.int .i64 s0.var) ∧ wA.cell? ⟨sg, so + 1, none⟩ = some (.slice ta s0.val.length tcap) := ⟨(BA.cell (p := ⟨_, _, none⟩) l5a).trans y2, (BA.cell (p := ⟨_, _, none⟩) l5b).trans z0, (BA.cell (p := ⟨_, _, none⟩) l5b).trans z1, (BA.cell (p := ⟨_, _, none⟩) l5b).trans z2, (BA.cell (p := ⟨_, _, none⟩) l5c).trans f0, (BA.cell (p := ⟨_, _, none⟩) l5c).trans f1⟩) | (refine step_append_new (W5.alloc (.cells #[.int .i64 s0.var, .slice ta s0.val.length tcap] 52)).drew (by rfl) (.const (.slice none 0 0)) (.tmp 48) 48 (by rfl) W5.heap.size 52 k0 (.agg #[.int .i64 0, .slice none 0 0]) 2 32 Try.underlying48 Si.out Sz0.out Sz1.out Sz2.out rfl (by decide) (by rfl) (.slice (some ⟨sg, so, none⟩) r.sets.length scap) r.sets.length sx (by rfl) HSR5B.out HSONE.out hs0 hlen6 hlen6b B5B.size ?_; intro gA capA wA hownA hgrowA hatA hltA; have BA : Below W5.heap.size W5 wA := (B5B.drew.grown hgrowA B5B.size hnone); have hrowB : Row wA (.slice (some ⟨W5.heap.size, 0, none⟩) 1 1) 2 1 [.int .i64 s0.var, .slice ta s0.val.length tcap] := Row.below (row_alloc W5 [.int .i64 s0.var, .slice ta s0.val.length tcap] 52 2 1 hone rfl) ((Below.refl _ _).drew.grown hgrowA (Nat.le_refl _) hnoneB); have SA2 : wA.cell? ⟨w2.heap.size, 2, none⟩ = some (.slice (some ⟨gR, 0, none⟩) p.rules.length capR) ∧ wA.cell? ⟨w4.heap.size, 0, none⟩ = some (.string r.name) ∧ wA.cell? ⟨w4.heap.size, 1, none⟩ = some (.slice ga r.guard.length gcap) ∧ wA.cell? ⟨w4.heap.size, 2, none⟩ = some (.slice (some ⟨sg, so, none⟩) r.sets.length scap) ∧ wA.cell? ⟨sg, so, none⟩ = some (.int .i64 s0.var) ∧ wA.cell? ⟨sg, so + 1, none⟩ = some (.slice ta s0.val.length tcap) := ⟨(BA.cell (p := ⟨_, _, none⟩) l5a).trans y2, (BA.cell (p := ⟨_, _, none⟩) l5b).trans z0, (BA.cell (p := ⟨_, _, none⟩) l5b).trans z1, (BA.cell (p := ⟨_, _, none⟩) l5b).trans z2, (BA.cell (p := ⟨_, _, none⟩) l5c).trans f0, (BA.cell (p := ⟨_, _, none⟩) l5c).trans f1⟩))
  all_goals
    clear SA SAD SALD SAL0 SB SBS
    have HOB2 := (((HOB.stored (i * 3) (.string r.name)).1.stored (i * 3 + 1) (.slice ga r.guard.length gcap)).1.stored (i * 3 + 2) (.slice (some ⟨gB, 0, none⟩) (r.sets.length + 1) capB)).1
    have hgB : W5.heap.size ≤ gB := (hownB.lt gB rfl).1
    have hgBR : gR ≠ gB := by have := HZ5.out; omega
    have hownB2 : (((wB.setCell ⟨gR, i * 3, none⟩ (.string r.name)).setCell ⟨gR, i * 3 + 1, none⟩ (.slice ga r.guard.length gcap)).setCell ⟨gR, i * 3 + 2, none⟩ (.slice (some ⟨gB, 0, none⟩) (r.sets.length + 1) capB)).ownsRow W5.heap.size 52 2 (.slice (some ⟨gB, 0, none⟩) (r.sets.length + 1) capB) (r.sets.length + 1) (sx ++ [.int .i64 s0.var, .slice ta s0.val.length tcap]) := own_set hgBR (own_set hgBR (own_set hgBR hownB))
    obtain ⟨W6, hW6⟩ : ∃ W6, W6 = (((wB.setCell ⟨gR, i * 3, none⟩ (.string r.name)).setCell ⟨gR, i * 3 + 1, none⟩ (.slice ga r.guard.length gcap)).setCell ⟨gR, i * 3 + 2, none⟩ (.slice (some ⟨gB, 0, none⟩) (r.sets.length + 1) capB)) := ⟨_, rfl⟩
    have bb : ∀ (B : Nat) (u : World), B ≤ gR → Below B u wB → Below B u W6 := fun B u h1 h2 => by rw [hW6]; exact ((h2.setCell h1 _).setCell h1 _).setCell h1 _
    rw [← hW6] at HOB2 hownB2 ⊢
    have hz6 : wB.heap.size ≤ W6.heap.size := by rw [hW6]; simp
    have hb6 : Below w.heap.size w W6 := bb _ _ (by omega) (hb5.trans (BB.mono hb5.size))
    have K6 : Below (w.heap.size + 1) (w.alloc (.cells #[.string p.name, .slice (some ⟨vg, vo, none⟩) p.vars.length cap0, .slice (some ⟨g, o, none⟩) p.rules.length cap1] 46)) W6 := bb _ _ (by omega) (K5.trans (BB.mono (box_size K5)))
    have g0 : W6.cell? ⟨w2.heap.size, 0, none⟩ = some (.string p.name) := by rw [hW6, cell_set (.inl n1), cell_set (.inl n1), cell_set (.inl n1)]; exact (BB.cell (p := ⟨w2.heap.size, _, none⟩) l5a).trans y0
    have g1 : W6.cell? ⟨w2.heap.size, 1, none⟩ = some (.slice (some ⟨vg, vo, none⟩) p.vars.length cap0) := by rw [hW6, cell_set (.inl n1), cell_set (.inl n1), cell_set (.inl n1)]; exact (BB.cell (p := ⟨w2.heap.size, _, none⟩) l5a).trans y1
    have g2 : W6.cell? ⟨w2.heap.size, 2, none⟩ = some (.slice (some ⟨gR, 0, none⟩) p.rules.length capR) := by rw [hW6, cell_set (.inl n1), cell_set (.inl n1), cell_set (.inl n1)]; exact (BB.cell (p := ⟨w2.heap.size, _, none⟩) l5a).trans y2
    have l6a : w2.heap.size < W6.heap.size := by have := BB.size; omega
    have HSETS : Hid (Seq (SetOk W6) 2 W6 (.slice (some ⟨gB, 0, none⟩) (r.sets.length + 1) capB) (r.sets ++ [s0])) := by
      refine chunks_seq (by have := row_of_own hownB2; simpa using this) ((HSCH.out.imp fun _ _ => SetOk.below hb6).append (Chunks.one rfl ⟨_, rfl, HTV.out.below hb6⟩))
    have HRULES : Hid (RulesOk W6 (.slice (some ⟨gR, 0, none⟩) p.rules.length capR) (p.rules.set i { r with sets := r.sets ++ [s0] })) := by
      have h1 := row_of_own HOB2
      refine chunks_seq (by rw [List.length_set]; exact h1) ((HCH.out.imp fun _ _ => RuleOk.below hb6).set3 i hil _ _ _ _ ⟨_, _, rfl, HT.out.below hb6, HSETS.out⟩)
    clear hW6 hownB2 HOB2 HOB hownB hgrowB BB y0 y1 y2 z0 z1 z2 f0 f1 t0 t1 t2 v0 v1 v2 bb hownA hgrowA BA SA2 hb5 K5 OW5 HSR5 HSR5B B5B
    have x0' := box_at K6 0
    have x1 := box_at K6 1
    have x2 := box_at K6 2
    simp at x0' x1 x2
    have l6 : w.heap.size < W6.heap.size := by have := box_size K6; omega
    have ne6 : w.heap.size ≠ W6.heap.size := by omega
    go_wp2_with fail
    obtain ⟨W7, hW7⟩ : ∃ W7, W7 = W6.alloc (.cells #[.string p.name, .slice (some ⟨vg, vo, none⟩) p.vars.length cap0, .slice (some ⟨g, o, none⟩) p.rules.length cap1] 46) := ⟨_, rfl⟩
    rw [← hW7]
    have hz7 : W7.heap.size = W6.heap.size + 1 := by rw [hW7]; simp
    have l7a : w.heap.size < W7.heap.size := by omega
    have l7b : vg < W7.heap.size := by omega
    have l7c : W6.heap.size < W7.heap.size := by omega
    have l7d : w2.heap.size < W7.heap.size := by omega
    have B67 : Below W6.heap.size W6 W7 := by rw [hW7]; exact (Below.refl _ _).alloc (Nat.le_refl _) _
    have hb7 : Below w.heap.size w W7 := bthen hb6 B67
    have b70 : W7.cell? ⟨W6.heap.size, 0, none⟩ = some (.string p.name) := by rw [hW7, cell_new _ _ _ _ _ rfl]; rfl
    have b71 : W7.cell? ⟨W6.heap.size, 1, none⟩ = some (.slice (some ⟨vg, vo, none⟩) p.vars.length cap0) := by rw [hW7, cell_new _ _ _ _ _ rfl]; rfl
    have b72 : W7.cell? ⟨W6.heap.size, 2, none⟩ = some (.slice (some ⟨g, o, none⟩) p.rules.length cap1) := by rw [hW7, cell_new _ _ _ _ _ rfl]; rfl
    have fz7 : W7.frozen? ⟨W6.heap.size, 1, none⟩ = false := by rw [hW7]; exact box_frozen (Below.refl _ _) 1
    obtain ⟨e0, e1, e2, e3, e4, e5⟩ := HVX.out
    rw [Nat.zero_mul, Nat.add_zero] at e0 e1 e2 e3 e4 e5
    have c0 := (hb7.cell (p := ⟨vg, _, none⟩) hvg).trans e0
    have c1 := (hb7.cell (p := ⟨vg, _, none⟩) hvg).trans e1
    have c2 := (hb7.cell (p := ⟨vg, _, none⟩) hvg).trans e2
    have c3 := (hb7.cell (p := ⟨vg, _, none⟩) hvg).trans e3
    have c4 := (hb7.cell (p := ⟨vg, _, none⟩) hvg).trans e4
    have c5 := (hb7.cell (p := ⟨vg, _, none⟩) hvg).trans e5
    clear e0 e1 e2 e3 e4 e5
    rw [← B67.cell (p := ⟨w.heap.size, _, none⟩) l6] at x1
    rw [← B67.cell (p := ⟨w2.heap.size, _, none⟩) l6a] at g0 g1 g2
    have SA : W7.cell? ⟨w.heap.size, 1, none⟩ = some (.slice (some ⟨vg, vo, none⟩) p.vars.length cap0) ∧ W7.cell? ⟨vg, vo, none⟩ = some (.string x0.name) ∧ W7.cell? ⟨vg, vo + 1, none⟩ = some (.int .i64 x0.kind) ∧ W7.cell? ⟨vg, vo + 2, none⟩ = some (.int .i64 x0.lo) ∧ W7.cell? ⟨vg, vo + 3, none⟩ = some (.int .i64 x0.hi) ∧ W7.cell? ⟨vg, vo + 4, none⟩ = some (.int .i64 x0.perNode) ∧ W7.cell? ⟨vg, vo + 5, none⟩ = some (.int .i64 x0.perID) := ⟨x1, c0, c1, c2, c3, c4, c5⟩
    have SAL0 : ∀ ob : Obj, (W7.alloc ob).cell? ⟨w.heap.size, 1, none⟩ = some (.slice (some ⟨vg, vo, none⟩) p.vars.length cap0) ∧ (W7.alloc ob).cell? ⟨vg, vo, none⟩ = some (.string x0.name) ∧ (W7.alloc ob).cell? ⟨vg, vo + 1, none⟩ = some (.int .i64 x0.kind) ∧ (W7.alloc ob).cell? ⟨vg, vo + 2, none⟩ = some (.int .i64 x0.lo) ∧ (W7.alloc ob).cell? ⟨vg, vo + 3, none⟩ = some (.int .i64 x0.hi) ∧ (W7.alloc ob).cell? ⟨vg, vo + 4, none⟩ = some (.int .i64 x0.perNode) ∧ (W7.alloc ob).cell? ⟨vg, vo + 5, none⟩ = some (.int .i64 x0.perID) := fun ob => ⟨(((Below.refl W7.heap.size W7).alloc (Nat.le_refl _) ob).cell (p := ⟨_, _, none⟩) l7a).trans x1, (((Below.refl W7.heap.size W7).alloc (Nat.le_refl _) ob).cell (p := ⟨_, _, none⟩) l7b).trans c0, (((Below.refl W7.heap.size W7).alloc (Nat.le_refl _) ob).cell (p := ⟨_, _, none⟩) l7b).trans c1, (((Below.refl W7.heap.size W7).alloc (Nat.le_refl _) ob).cell (p := ⟨_, _, none⟩) l7b).trans c2, (((Below.refl W7.heap.size W7).alloc (Nat.le_refl _) ob).cell (p := ⟨_, _, none⟩) l7b).trans c3, (((Below.refl W7.heap.size W7).alloc (Nat.le_refl _) ob).cell (p := ⟨_, _, none⟩) l7b).trans c4, (((Below.refl W7.heap.size W7).alloc (Nat.le_refl _) ob).cell (p := ⟨_, _, none⟩) l7b).trans c5⟩
    have SAD : W7.drew.cell? ⟨w.heap.size, 1, none⟩ = some (.slice (some ⟨vg, vo, none⟩) p.vars.length cap0) ∧ W7.drew.cell? ⟨vg, vo, none⟩ = some (.string x0.name) ∧ W7.drew.cell? ⟨vg, vo + 1, none⟩ = some (.int .i64 x0.kind) ∧ W7.drew.cell? ⟨vg, vo + 2, none⟩ = some (.int .i64 x0.lo) ∧ W7.drew.cell? ⟨vg, vo + 3, none⟩ = some (.int .i64 x0.hi) ∧ W7.drew.cell? ⟨vg, vo + 4, none⟩ = some (.int .i64 x0.perNode) ∧ W7.drew.cell? ⟨vg, vo + 5, none⟩ = some (.int .i64 x0.perID) := SA
    have SALD : ∀ ob : Obj, (W7.alloc ob).drew.cell? ⟨w.heap.size, 1, none⟩ = some (.slice (some ⟨vg, vo, none⟩) p.vars.length cap0) ∧ (W7.alloc ob).drew.cell? ⟨vg, vo, none⟩ = some (.string x0.name) ∧ (W7.alloc ob).drew.cell? ⟨vg, vo + 1, none⟩ = some (.int .i64 x0.kind) ∧ (W7.alloc ob).drew.cell? ⟨vg, vo + 2, none⟩ = some (.int .i64 x0.lo) ∧ (W7.alloc ob).drew.cell? ⟨vg, vo + 3, none⟩ = some (.int .i64 x0.hi) ∧ (W7.alloc ob).drew.cell? ⟨vg, vo + 4, none⟩ = some (.int .i64 x0.perNode) ∧ (W7.alloc ob).drew.cell? ⟨vg, vo + 5, none⟩ = some (.int .i64 x0.perID) := SAL0
    have HVR7 : Hid (Row W7.drew (.slice (some ⟨vg, vo, none⟩) p.vars.length cap0) 6 p.vars.length (p.vars.flatMap varCells)) := Row.below HVV.out hb7.drew
    have B7B : Below W7.heap.size W7 (W7.alloc (.cells #[.string x0.name, .int .i64 x0.kind, .int .i64 x0.lo, .int .i64 x0.hi, .int .i64 x0.perNode, .int .i64 x0.perID] 54)) := (Below.refl _ _).alloc (Nat.le_refl _) _
    have HVR7B : Hid (Row (W7.alloc (.cells #[.string x0.name, .int .i64 x0.kind, .int .i64 x0.lo, .int .i64 x0.hi, .int .i64 x0.perNode, .int .i64 x0.perID] 54)).drew (.slice (some ⟨vg, vo, none⟩) p.vars.length cap0) 6 p.vars.length (p.vars.flatMap varCells)) := Row.below HVV.out (bthen hb7 B7B).drew
    have VONE : ∀ u ∈ p.vars.flatMap varCells, u.oneCell' = true := vars_one p.vars
    have XONE : ∀ u ∈ varCells x0, u.oneCell' = true := var_one x0
    have vlen6 : p.vars.length ≤ maxLen := by unfold maxLen; omega
    have vlen6b : p.vars.length * 56 ≤ 140737488355328 := by omega
    have vlen7 : p.vars.length + 1 ≤ maxLen := by unfold maxLen; omega
    have vlen7b : (p.vars.length + 1) * 56 ≤ 140737488355328 := by omega
    have wnone : ∀ k, (none : Option Nat) = some k → W7.heap.size ≤ k := by simp
    have wnoneB : ∀ k, (none : Option Nat) = some k → (W7.alloc (.cells #[.string x0.name, .int .i64 x0.kind, .int .i64 x0.lo, .int .i64 x0.hi, .int .i64 x0.perNode, .int .i64 x0.perID] 54)).heap.size ≤ k := by simp
    have m1 : W6.heap.size ≠ w.heap.size := by omega
    have m2 : W6.heap.size ≠ vg := by omega
    have HZ7 := Lib.hid hz7
    obtain ⟨m0, hm0, hy0, hy1, hy2⟩ := info_parts infoVar
    have Vi := Lib.hid hm0
    have Vz0 := Lib.hid hy0
    have Vz1 := Lib.hid hy1
    have Vz2 := Lib.hid hy2
    have ne6 := Lib.hid ne6
    clear hm0 hy0 hy1 hy2 hz7 hW7 x0' x2
    go_region_held3 (fun w' => w'.cell? ⟨w.heap.size, 1, none⟩ = some (.slice (some ⟨vg, vo, none⟩) p.vars.length cap0) ∧ w'.cell? ⟨vg, vo, none⟩ = some (.string x0.name) ∧ w'.cell? ⟨vg, vo + 1, none⟩ = some (.int .i64 x0.kind) ∧ w'.cell? ⟨vg, vo + 2, none⟩ = some (.int .i64 x0.lo) ∧ w'.cell? ⟨vg, vo + 3, none⟩ = some (.int .i64 x0.hi) ∧ w'.cell? ⟨vg, vo + 4, none⟩ = some (.int .i64 x0.perNode) ∧ w'.cell? ⟨vg, vo + 5, none⟩ = some (.int .i64 x0.perID)) (first | (with_reducible exact SB) | (with_reducible exact SA2) | (with_reducible exact SA) | (with_reducible exact SAL _) | (with_reducible exact SBS _) | (with_reducible exact SAL0 _) | (with_reducible exact SAD) | (with_reducible exact SALD _))
      (first | (refine step_append_row1 (wU.alloc (.cells #[.string x0.name, .int .i64 x0.kind, .int .i64 x0.lo, .int .i64 x0.hi, .int .i64 x0.perNode, .int .i64 x0.perID] 54)) (by rfl) (.tmp 61) (.tmp 66) 43 (by rfl) W7.heap.size 54 m0 (.agg #[.string ByteArray.empty, .int .i64 0, .int .i64 0, .int .i64 0, .int .i64 0, .int .i64 0]) 6 56 Try.underlying43 Vi.out Vz0.out Vz1.out Vz2.out rfl (by decide) (.slice (some ⟨gU, 0, none⟩) p.vars.length capU) p.vars.length (p.vars.flatMap varCells) (by rfl) (hownU.alloc _) (.slice (some ⟨wU.heap.size, 0, none⟩) 1 1) 1 [.string x0.name, .int .i64 x0.kind, .int .i64 x0.lo, .int .i64 x0.hi, .int .i64 x0.perNode, .int .i64 x0.perID] (by rfl) (row_alloc wU [.string x0.name, .int .i64 x0.kind, .int .i64 x0.lo, .int .i64 x0.hi, .int .i64 x0.perNode, .int .i64 x0.perID] _ 6 1 hone rfl) XONE Nat.one_pos vlen7 vlen7b ubase2 ?_; intro gV capV wV hownV hgrowV _ hltV; have BV : Below W7.heap.size W7 wV := (((BU.alloc BU.size _).grown hgrowV ubase2 (own_ge hownU))); have SB : wV.cell? ⟨w.heap.size, 1, none⟩ = some (.slice (some ⟨vg, vo, none⟩) p.vars.length cap0) ∧ wV.cell? ⟨vg, vo, none⟩ = some (.string x0.name) ∧ wV.cell? ⟨vg, vo + 1, none⟩ = some (.int .i64 x0.kind) ∧ wV.cell? ⟨vg, vo + 2, none⟩ = some (.int .i64 x0.lo) ∧ wV.cell? ⟨vg, vo + 3, none⟩ = some (.int .i64 x0.hi) ∧ wV.cell? ⟨vg, vo + 4, none⟩ = some (.int .i64 x0.perNode) ∧ wV.cell? ⟨vg, vo + 5, none⟩ = some (.int .i64 x0.perID) := ⟨(BV.cell (p := ⟨_, _, none⟩) l7a).trans x1, (BV.cell (p := ⟨_, _, none⟩) l7b).trans c0, (BV.cell (p := ⟨_, _, none⟩) l7b).trans c1, (BV.cell (p := ⟨_, _, none⟩) l7b).trans c2, (BV.cell (p := ⟨_, _, none⟩) l7b).trans c3, (BV.cell (p := ⟨_, _, none⟩) l7b).trans c4, (BV.cell (p := ⟨_, _, none⟩) l7b).trans c5⟩; have SBS : ∀ x9 : Value, (wV.setCell ⟨W6.heap.size, 1, none⟩ x9).cell? ⟨w.heap.size, 1, none⟩ = some (.slice (some ⟨vg, vo, none⟩) p.vars.length cap0) ∧ (wV.setCell ⟨W6.heap.size, 1, none⟩ x9).cell? ⟨vg, vo, none⟩ = some (.string x0.name) ∧ (wV.setCell ⟨W6.heap.size, 1, none⟩ x9).cell? ⟨vg, vo + 1, none⟩ = some (.int .i64 x0.kind) ∧ (wV.setCell ⟨W6.heap.size, 1, none⟩ x9).cell? ⟨vg, vo + 2, none⟩ = some (.int .i64 x0.lo) ∧ (wV.setCell ⟨W6.heap.size, 1, none⟩ x9).cell? ⟨vg, vo + 3, none⟩ = some (.int .i64 x0.hi) ∧ (wV.setCell ⟨W6.heap.size, 1, none⟩ x9).cell? ⟨vg, vo + 4, none⟩ = some (.int .i64 x0.perNode) ∧ (wV.setCell ⟨W6.heap.size, 1, none⟩ x9).cell? ⟨vg, vo + 5, none⟩ = some (.int .i64 x0.perID) := (fun x9 => ⟨(cell_set (.inl m1)).trans SB.1, (cell_set (.inl m2)).trans SB.2.1, (cell_set (.inl m2)).trans SB.2.2.1, (cell_set (.inl m2)).trans SB.2.2.2.1, (cell_set (.inl m2)).trans SB.2.2.2.2.1, (cell_set (.inl m2)).trans SB.2.2.2.2.2.1, (cell_set (.inl m2)).trans SB.2.2.2.2.2.2⟩); have t0 := (BV.frozen (p := ⟨W6.heap.size, 1, none⟩) l7c).trans fz7; have t1 := (BV.cell (p := ⟨W6.heap.size, 1, none⟩) l7c).trans b71) | (refine step_append_row1 wU (by rfl) (.tmp 61) (.tmp 66) 43 (by rfl) W7.heap.size 54 m0 (.agg #[.string ByteArray.empty, .int .i64 0, .int .i64 0, .int .i64 0, .int .i64 0, .int .i64 0]) 6 56 Try.underlying43 Vi.out Vz0.out Vz1.out Vz2.out rfl (by decide) (.slice (some ⟨gU, 0, none⟩) p.vars.length capU) p.vars.length (p.vars.flatMap varCells) (by rfl) hownU (.slice (some ⟨W7.heap.size, 0, none⟩) 1 1) 1 [.string x0.name, .int .i64 x0.kind, .int .i64 x0.lo, .int .i64 x0.hi, .int .i64 x0.perNode, .int .i64 x0.perID] (by rfl) urowB XONE Nat.one_pos vlen7 vlen7b BU.size ?_; intro gV capV wV hownV hgrowV _ hltV; have BV : Below W7.heap.size W7 wV := ((BU.grown hgrowV BU.size (own_ge hownU))); have SB : wV.cell? ⟨w.heap.size, 1, none⟩ = some (.slice (some ⟨vg, vo, none⟩) p.vars.length cap0) ∧ wV.cell? ⟨vg, vo, none⟩ = some (.string x0.name) ∧ wV.cell? ⟨vg, vo + 1, none⟩ = some (.int .i64 x0.kind) ∧ wV.cell? ⟨vg, vo + 2, none⟩ = some (.int .i64 x0.lo) ∧ wV.cell? ⟨vg, vo + 3, none⟩ = some (.int .i64 x0.hi) ∧ wV.cell? ⟨vg, vo + 4, none⟩ = some (.int .i64 x0.perNode) ∧ wV.cell? ⟨vg, vo + 5, none⟩ = some (.int .i64 x0.perID) := ⟨(BV.cell (p := ⟨_, _, none⟩) l7a).trans x1, (BV.cell (p := ⟨_, _, none⟩) l7b).trans c0, (BV.cell (p := ⟨_, _, none⟩) l7b).trans c1, (BV.cell (p := ⟨_, _, none⟩) l7b).trans c2, (BV.cell (p := ⟨_, _, none⟩) l7b).trans c3, (BV.cell (p := ⟨_, _, none⟩) l7b).trans c4, (BV.cell (p := ⟨_, _, none⟩) l7b).trans c5⟩; have SBS : ∀ x9 : Value, (wV.setCell ⟨W6.heap.size, 1, none⟩ x9).cell? ⟨w.heap.size, 1, none⟩ = some (.slice (some ⟨vg, vo, none⟩) p.vars.length cap0) ∧ (wV.setCell ⟨W6.heap.size, 1, none⟩ x9).cell? ⟨vg, vo, none⟩ = some (.string x0.name) ∧ (wV.setCell ⟨W6.heap.size, 1, none⟩ x9).cell? ⟨vg, vo + 1, none⟩ = some (.int .i64 x0.kind) ∧ (wV.setCell ⟨W6.heap.size, 1, none⟩ x9).cell? ⟨vg, vo + 2, none⟩ = some (.int .i64 x0.lo) ∧ (wV.setCell ⟨W6.heap.size, 1, none⟩ x9).cell? ⟨vg, vo + 3, none⟩ = some (.int .i64 x0.hi) ∧ (wV.setCell ⟨W6.heap.size, 1, none⟩ x9).cell? ⟨vg, vo + 4, none⟩ = some (.int .i64 x0.perNode) ∧ (wV.setCell ⟨W6.heap.size, 1, none⟩ x9).cell? ⟨vg, vo + 5, none⟩ = some (.int .i64 x0.perID) := (fun x9 => ⟨(cell_set (.inl m1)).trans SB.1, (cell_set (.inl m2)).trans SB.2.1, (cell_set (.inl m2)).trans SB.2.2.1, (cell_set (.inl m2)).trans SB.2.2.2.1, (cell_set (.inl m2)).trans SB.2.2.2.2.1, (cell_set (.inl m2)).trans SB.2.2.2.2.2.1, (cell_set (.inl m2)).trans SB.2.2.2.2.2.2⟩); have t0 := (BV.frozen (p := ⟨W6.heap.size, 1, none⟩) l7c).trans fz7; have t1 := (BV.cell (p := ⟨W6.heap.size, 1, none⟩) l7c).trans b71) | (refine step_append_new W7.drew (by rfl) (.const (.slice none 0 0)) (.tmp 60) 43 (by rfl) W7.heap.size 54 m0 (.agg #[.string ByteArray.empty, .int .i64 0, .int .i64 0, .int .i64 0, .int .i64 0, .int .i64 0]) 6 56 Try.underlying43 Vi.out Vz0.out Vz1.out Vz2.out rfl (by decide) (by rfl) (.slice (some ⟨vg, vo, none⟩) p.vars.length cap0) p.vars.length (p.vars.flatMap varCells) (by rfl) HVR7.out VONE hvp vlen6 vlen6b (Nat.le_refl _) ?_; intro gU capU wU hownU hgrowU hatU hltU; have BU : Below W7.heap.size W7 wU := ((Below.refl W7.heap.size W7).drew.grown hgrowU (Nat.le_refl _) wnone); have ubase2 : W7.heap.size ≤ (wU.alloc (.cells #[.string x0.name, .int .i64 x0.kind, .int .i64 x0.lo, .int .i64 x0.hi, .int .i64 x0.perNode, .int .i64 x0.perID] 54)).heap.size := Nat.le_trans BU.size ((Below.refl wU.heap.size wU).alloc (Nat.le_refl _) _).size; have SAL : ∀ ob : Obj, (wU.alloc ob).cell? ⟨w.heap.size, 1, none⟩ = some (.slice (some ⟨vg, vo, none⟩) p.vars.length cap0) ∧ (wU.alloc ob).cell? ⟨vg, vo, none⟩ = some (.string x0.name) ∧ (wU.alloc ob).cell? ⟨vg, vo + 1, none⟩ = some (.int .i64 x0.kind) ∧ (wU.alloc ob).cell? ⟨vg, vo + 2, none⟩ = some (.int .i64 x0.lo) ∧ (wU.alloc ob).cell? ⟨vg, vo + 3, none⟩ = some (.int .i64 x0.hi) ∧ (wU.alloc ob).cell? ⟨vg, vo + 4, none⟩ = some (.int .i64 x0.perNode) ∧ (wU.alloc ob).cell? ⟨vg, vo + 5, none⟩ = some (.int .i64 x0.perID) := (fun ob => ⟨((BU.alloc BU.size ob).cell (p := ⟨_, _, none⟩) l7a).trans x1, ((BU.alloc BU.size ob).cell (p := ⟨_, _, none⟩) l7b).trans c0, ((BU.alloc BU.size ob).cell (p := ⟨_, _, none⟩) l7b).trans c1, ((BU.alloc BU.size ob).cell (p := ⟨_, _, none⟩) l7b).trans c2, ((BU.alloc BU.size ob).cell (p := ⟨_, _, none⟩) l7b).trans c3, ((BU.alloc BU.size ob).cell (p := ⟨_, _, none⟩) l7b).trans c4, ((BU.alloc BU.size ob).cell (p := ⟨_, _, none⟩) l7b).trans c5⟩); have SA2 : wU.cell? ⟨w.heap.size, 1, none⟩ = some (.slice (some ⟨vg, vo, none⟩) p.vars.length cap0) ∧ wU.cell? ⟨vg, vo, none⟩ = some (.string x0.name) ∧ wU.cell? ⟨vg, vo + 1, none⟩ = some (.int .i64 x0.kind) ∧ wU.cell? ⟨vg, vo + 2, none⟩ = some (.int .i64 x0.lo) ∧ wU.cell? ⟨vg, vo + 3, none⟩ = some (.int .i64 x0.hi) ∧ wU.cell? ⟨vg, vo + 4, none⟩ = some (.int .i64 x0.perNode) ∧ wU.cell? ⟨vg, vo + 5, none⟩ = some (.int .i64 x0.perID) := ⟨(BU.cell (p := ⟨_, _, none⟩) l7a).trans x1, (BU.cell (p := ⟨_, _, none⟩) l7b).trans c0, (BU.cell (p := ⟨_, _, none⟩) l7b).trans c1, (BU.cell (p := ⟨_, _, none⟩) l7b).trans c2, (BU.cell (p := ⟨_, _, none⟩) l7b).trans c3, (BU.cell (p := ⟨_, _, none⟩) l7b).trans c4, (BU.cell (p := ⟨_, _, none⟩) l7b).trans c5⟩) | (refine step_append_new (W7.alloc (.cells #[.string x0.name, .int .i64 x0.kind, .int .i64 x0.lo, .int .i64 x0.hi, .int .i64 x0.perNode, .int .i64 x0.perID] 54)).drew (by rfl) (.const (.slice none 0 0)) (.tmp 60) 43 (by rfl) W7.heap.size 54 m0 (.agg #[.string ByteArray.empty, .int .i64 0, .int .i64 0, .int .i64 0, .int .i64 0, .int .i64 0]) 6 56 Try.underlying43 Vi.out Vz0.out Vz1.out Vz2.out rfl (by decide) (by rfl) (.slice (some ⟨vg, vo, none⟩) p.vars.length cap0) p.vars.length (p.vars.flatMap varCells) (by rfl) HVR7B.out VONE hvp vlen6 vlen6b B7B.size ?_; intro gU capU wU hownU hgrowU hatU hltU; have BU : Below W7.heap.size W7 wU := (B7B.drew.grown hgrowU B7B.size wnone); have urowB : Row wU (.slice (some ⟨W7.heap.size, 0, none⟩) 1 1) 6 1 [.string x0.name, .int .i64 x0.kind, .int .i64 x0.lo, .int .i64 x0.hi, .int .i64 x0.perNode, .int .i64 x0.perID] := Row.below (row_alloc W7 [.string x0.name, .int .i64 x0.kind, .int .i64 x0.lo, .int .i64 x0.hi, .int .i64 x0.perNode, .int .i64 x0.perID] 54 6 1 hone rfl) ((Below.refl _ _).drew.grown hgrowU (Nat.le_refl _) wnoneB); have SA2 : wU.cell? ⟨w.heap.size, 1, none⟩ = some (.slice (some ⟨vg, vo, none⟩) p.vars.length cap0) ∧ wU.cell? ⟨vg, vo, none⟩ = some (.string x0.name) ∧ wU.cell? ⟨vg, vo + 1, none⟩ = some (.int .i64 x0.kind) ∧ wU.cell? ⟨vg, vo + 2, none⟩ = some (.int .i64 x0.lo) ∧ wU.cell? ⟨vg, vo + 3, none⟩ = some (.int .i64 x0.hi) ∧ wU.cell? ⟨vg, vo + 4, none⟩ = some (.int .i64 x0.perNode) ∧ wU.cell? ⟨vg, vo + 5, none⟩ = some (.int .i64 x0.perID) := ⟨(BU.cell (p := ⟨_, _, none⟩) l7a).trans x1, (BU.cell (p := ⟨_, _, none⟩) l7b).trans c0, (BU.cell (p := ⟨_, _, none⟩) l7b).trans c1, (BU.cell (p := ⟨_, _, none⟩) l7b).trans c2, (BU.cell (p := ⟨_, _, none⟩) l7b).trans c3, (BU.cell (p := ⟨_, _, none⟩) l7b).trans c4, (BU.cell (p := ⟨_, _, none⟩) l7b).trans c5⟩))
    all_goals
      clear SA SAD SALD SAL0 SA2
      have hgV : W7.heap.size ≤ gV := (hownV.lt gV rfl).1
      have hgV6 : W6.heap.size ≠ gV := by omega
      have hownV2 : (wV.setCell ⟨W6.heap.size, 1, none⟩ (.slice (some ⟨gV, 0, none⟩) (p.vars.length + 1) capV)).ownsRow W7.heap.size 54 6 (.slice (some ⟨gV, 0, none⟩) (p.vars.length + 1) capV) (p.vars.length + 1) (p.vars.flatMap varCells ++ varCells x0) := own_set hgV6 hownV
      obtain ⟨W8, hW8⟩ : ∃ W8, W8 = wV.setCell ⟨W6.heap.size, 1, none⟩ (.slice (some ⟨gV, 0, none⟩) (p.vars.length + 1) capV) := ⟨_, rfl⟩
      rw [← hW8] at hownV2 ⊢
      have B68 : Below W6.heap.size W6 W8 := by rw [hW8]; exact (bthen B67 BV).setCell (Nat.le_refl _) _
      have hb8 : Below w.heap.size w W8 := bthen hb6 B68
      have hs8 : W7.heap.size ≤ W8.heap.size := by rw [hW8]; have := BV.size; simpa using this
      have m3 : W6.heap.size ≠ w2.heap.size := by omega
      have g0' : W8.cell? ⟨w2.heap.size, 0, none⟩ = some (.string p.name) := by rw [hW8, cell_set (.inl m3)]; exact (BV.cell (p := ⟨w2.heap.size, _, none⟩) l7d).trans g0
      have g1' : W8.cell? ⟨w2.heap.size, 1, none⟩ = some (.slice (some ⟨vg, vo, none⟩) p.vars.length cap0) := by rw [hW8, cell_set (.inl m3)]; exact (BV.cell (p := ⟨w2.heap.size, _, none⟩) l7d).trans g1
      have g2' : W8.cell? ⟨w2.heap.size, 2, none⟩ = some (.slice (some ⟨gR, 0, none⟩) p.rules.length capR) := by rw [hW8, cell_set (.inl m3)]; exact (BV.cell (p := ⟨w2.heap.size, _, none⟩) l7d).trans g2
      have s0' : W8.cell? ⟨W6.heap.size, 0, none⟩ = some (.string p.name) := by rw [hW8, cell_set (.inr (by omega))]; exact (BV.cell (p := ⟨W6.heap.size, _, none⟩) l7c).trans b70
      have s1' : W8.cell? ⟨W6.heap.size, 1, none⟩ = some (.slice (some ⟨gV, 0, none⟩) (p.vars.length + 1) capV) := by rw [hW8]; exact World.cell?_setCell_same _ _ _ t1
      have s2' : W8.cell? ⟨W6.heap.size, 2, none⟩ = some (.slice (some ⟨g, o, none⟩) p.rules.length cap1) := by rw [hW8, cell_set (.inr (by omega))]; exact (BV.cell (p := ⟨W6.heap.size, _, none⟩) l7c).trans b72
      have x1' : W8.cell? ⟨w.heap.size, 1, none⟩ = some (.slice (some ⟨vg, vo, none⟩) p.vars.length cap0) := by rw [hW8]; exact (SBS _).1
      have HQ : Hid (ProgOk W8 (.agg #[.string p.name, .slice (some ⟨vg, vo, none⟩) p.vars.length cap0, .slice (some ⟨gR, 0, none⟩) p.rules.length capR]) { p with rules := p.rules.set i { r with sets := r.sets ++ [s0] } }) :=
        ⟨_, _, rfl, HVV.out.below hb8, HRULES.out.below B68⟩
      have HSP : Hid (ProgOk W8 (.agg #[.string p.name, .slice (some ⟨gV, 0, none⟩) (p.vars.length + 1) capV, .slice (some ⟨g, o, none⟩) p.rules.length cap1]) { p with vars := p.vars ++ [x0] }) := by
        refine ⟨_, _, rfl, ?_, HRV.out.below hb8⟩
        have h1 := row_of_own hownV2
        unfold VarsOk
        simp only [List.length_append, List.length_singleton, List.flatMap_append]
        simpa using h1
      have l8q : w2.heap.size < W8.heap.size := by omega
      have l8s : W6.heap.size < W8.heap.size := by omega
      clear hW8 hownV2 hownV hgrowV BV SB SBS hownU hgrowU BU t0 t1 g0 g1 g2 b70 b71 b72 fz7 c0 c1 c2 c3 c4 c5 x1 HVR7 HVR7B B7B B67
      have HQI : Hid (ProgIn { p with rules := p.rules.set i { r with sets := r.sets ++ [s0] } }) := by
        obtain ⟨h1, h2, h3⟩ := HIN.out
        refine ⟨h1, h2, fun q hq => ?_⟩
        rcases List.mem_or_eq_of_mem_set hq with hq | rfl
        · exact h3 q hq
        · have hr := h3 r (by rw [← HGR.out]; exact List.getElem_mem hil)
          refine ⟨hr.1, hr.2.1, fun s hs => ?_⟩
          rcases List.mem_append.1 hs with hs | hs
          · exact hr.2.2 s hs
          · simp at hs; subst hs; exact hr.2.2 s (List.mem_of_getElem? hs0e)
      have HQL : Hid (LightP { p with rules := p.rules.set i { r with sets := r.sets ++ [s0] } }) := by
        obtain ⟨h1, h2, h3⟩ := HLP.out
        refine ⟨h1, by rw [List.length_set]; exact h2, fun q hq => ?_⟩
        rcases List.mem_or_eq_of_mem_set hq with hq | rfl
        · exact h3 q hq
        · have hr := h3 r (by rw [← HGR.out]; exact List.getElem_mem hil)
          refine ⟨hr.1, by simp; omega, fun s hs => ?_⟩
          rcases List.mem_append.1 hs with hs | hs
          · exact hr.2.2 s hs
          · simp at hs; subst hs; exact hr.2.2 s (List.mem_of_getElem? hs0e)
      have HSI : Hid (ProgIn { p with vars := p.vars ++ [x0] }) := by
        obtain ⟨h1, h2, h3⟩ := HIN.out
        refine ⟨h1, fun q hq => ?_, h3⟩
        rcases List.mem_append.1 hq with hq | hq
        · exact h2 q hq
        · simp at hq; subst hq; exact h2 _ (by rw [← HX0.out]; exact List.getElem_mem hvp)
      have HSL : Hid (LightP { p with vars := p.vars ++ [x0] }) := by
        obtain ⟨h1, h2, h3⟩ := HLP.out
        exact ⟨by simp; omega, h2, h3⟩
      have HQC : Hid (checkF { p with rules := p.rules.set i { r with sets := r.sets ++ [s0] } } = 7) := by
        have h0 : r.sets[0] = s0 := (List.getElem?_eq_some_iff.1 hs0e).2
        have := check_twice_set HCK.out i hil (by rw [HGR.out]; exact hs0)
        simp only [HGR.out, h0] at this
        exact this
      have HSC : Hid (checkF { p with vars := p.vars ++ [x0] } = if p.vars.length = 6 then 3 else 5) := by
        have := check_twice_var HCK.out hvp
        rw [HX0.out] at this
        exact this
      by_cases h6 : p.vars.length = 6
      · have b6 : ((p.vars.length : Int) == 6) = true := by simp [h6]
        have HSC2 : Hid (checkF { p with vars := p.vars ++ [x0] } = 3) := by rw [HSC.out, if_pos h6]; rfl
        clear h6
        go_wp2_with (go_at_call 12; refine (awake_any _).mono ?_; rintro e w9 ⟨rfl, hb9⟩; have j0 := (hb9.cell (p := ⟨w2.heap.size, _, none⟩) l8q).trans g0'; have j1 := (hb9.cell (p := ⟨w2.heap.size, _, none⟩) l8q).trans g1'; have j2 := (hb9.cell (p := ⟨w2.heap.size, _, none⟩) l8q).trans g2')
        refine (check_any _ _ _ (by exact HQ.out.below hb9) HQI.out HQL.out).mono ?_
        rintro e w10 ⟨rfl, hb10⟩
        rw [HQC.out]
        have hb910 := bthen hb9 hb10
        have k0 := (hb910.cell (p := ⟨W6.heap.size, _, none⟩) l8s).trans s0'
        have k1 := (hb910.cell (p := ⟨W6.heap.size, _, none⟩) l8s).trans s1'
        have k2 := (hb910.cell (p := ⟨W6.heap.size, _, none⟩) l8s).trans s2'
        go_wp2_with fail
        refine (check_any _ _ _ (by exact HSP.out.below hb910) HSI.out HSL.out).mono ?_
        rintro e w11 ⟨rfl, hb11⟩
        rw [HSC2.out]
        go_wp2_with fail
        go_ret
        exact ⟨rfl, bthen (bthen hb8 hb910) hb11⟩
      · have b6 : ((p.vars.length : Int) == 6) = false := by simp; omega
        have HSC2 : Hid (checkF { p with vars := p.vars ++ [x0] } = 5) := by rw [HSC.out, if_neg h6]; rfl
        go_wp2_with (go_at_call 12; refine (awake_any _).mono ?_; rintro e w9 ⟨rfl, hb9⟩; have j0 := (hb9.cell (p := ⟨w2.heap.size, _, none⟩) l8q).trans g0'; have j1 := (hb9.cell (p := ⟨w2.heap.size, _, none⟩) l8q).trans g1'; have j2 := (hb9.cell (p := ⟨w2.heap.size, _, none⟩) l8q).trans g2')
        refine (check_any _ _ _ (by exact HQ.out.below hb9) HQI.out HQL.out).mono ?_
        rintro e w10 ⟨rfl, hb10⟩
        rw [HQC.out]
        have hb910 := bthen hb9 hb10
        have k0 := (hb910.cell (p := ⟨W6.heap.size, _, none⟩) l8s).trans s0'
        have k1 := (hb910.cell (p := ⟨W6.heap.size, _, none⟩) l8s).trans s1'
        have k2 := (hb910.cell (p := ⟨W6.heap.size, _, none⟩) l8s).trans s2'
        go_wp2_with fail
        refine (check_any _ _ _ (by exact HSP.out.below hb910) HSI.out HSL.out).mono ?_
        rintro e w11 ⟨rfl, hb11⟩
        rw [HSC2.out]
        go_wp2_with fail
        go_ret
        exact ⟨rfl, bthen (bthen hb8 hb910) hb11⟩
end Go.Proofs.Ytdjhkjidakimhaa
