/- The walks over formed, of the program and of the reference. -/
import Derived.Test.YtogennegbihceaaCheckWalk3
set_option linter.unusedVariables false
set_option maxRecDepth 100000
namespace Go.Proofs.Ytogennegbihceaa
open Go.RowKit Go.Maps

def setB (n : Int) (s : SetD) : Bool := withinB s.var 0 (n - 1) && validB s.val n
def setsB (l : List SetD) (n : Int) : Bool := l.all (setB n) && decide ((l.map (·.var)).Nodup)
theorem formedB_eq (r : RuleD) (n : Int) : formedB r n = (decide (1 ≤ r.sets.length) && (decide (r.sets.length ≤ 6) && (validB r.guard n && setsB r.sets n))) := rfl
theorem sets_bad {l : List SetD} {n : Int} (k : Nat) (hk : k < l.length) (h : setB n l[k] = false) : setsB l n = false := by
  unfold setsB
  have : l.all (setB n) = false := by rw [List.all_eq_false]; exact ⟨l[k], List.getElem_mem hk, by simp [h]⟩
  rw [this]; rfl
theorem sets_twice {l : List SetD} {n : Int} (j k : Nat) (hjk : j < k) (hk : k < l.length) (h : (l[j]'(by omega)).var = l[k].var) : setsB l n = false := by
  unfold setsB
  have : ¬ (l.map (·.var)).Nodup := by
    intro hn
    have hn' := List.pairwise_iff_getElem.1 hn j k (by simp; omega) (by simpa using hk) hjk
    apply hn'
    simp [h]
  simp [this]
theorem sets_step {l : List SetD} {n : Int} (k : Nat) (hk : k < l.length) (h : setsB (l.take k) n = true) (h1 : setB n l[k] = true) (h2 : l[k].var ∉ (l.take k).map (·.var)) : setsB (l.take (k + 1)) n = true := by
  unfold setsB at *
  rw [Bool.and_eq_true, decide_eq_true_eq] at *
  rw [List.take_succ_eq_append_getElem hk, List.all_append, h.1, List.map_append]
  refine ⟨by simpa using h1, ?_⟩
  rw [List.nodup_append]
  refine ⟨h.2, by simp, ?_⟩
  intro a ha b hb
  simp only [List.map_singleton, List.mem_singleton] at hb
  subst hb
  intro hab
  exact h2 (hab ▸ ha)
theorem mem_vars {l : List SetD} {k : Nat} {x : Int} (h : x ∈ (l.take k).map (·.var)) : ∃ j, ∃ h : j < l.length, j < k ∧ l[j].var = x := by
  rw [List.mem_map] at h
  obtain ⟨s, hs, rfl⟩ := h
  obtain ⟨j, hj⟩ := List.getElem?_of_mem hs
  have hjk : j < k := by
    have := (List.getElem?_eq_some_iff.1 hj).1
    rw [List.length_take] at this; omega
  rw [List.getElem?_take, if_pos hjk] at hj
  obtain ⟨h1, h2⟩ := List.getElem?_eq_some_iff.1 hj
  exact ⟨j, h1, hjk, by rw [h2]⟩
theorem sets_again {l : List SetD} {n : Int} {k : Nat} (hk : k < l.length) (h : l[k].var ∈ (l.take k).map (·.var)) : setsB l n = false := by
  obtain ⟨j, hj, hjk, he⟩ := mem_vars h
  exact sets_twice j k hjk hk he
def ilits (l : List SetD) : List Lit := l.map fun s => .int .i64 s.var
theorem mem_ilits {l : List SetD} {x : Int} : Lit.int .i64 x ∈ ilits l ↔ x ∈ l.map (·.var) := by
  unfold ilits
  simp only [List.mem_map, Lit.int.injEq, true_and]
theorem ilits_step (l : List SetD) (k : Nat) (hk : k < l.length) : ilits (l.take k) ++ [.int .i64 l[k].var] = ilits (l.take (k + 1)) := by
  unfold ilits; rw [List.take_succ_eq_append_getElem hk, List.map_append]; rfl
def SetsAt (l : List SetD) (n : Int) (M k : Nat) (wr : World) : Prop := SetMap Try.prog 3 4 wr M k (ilits (l.take k)) ∧ setsB (l.take k) n = true
theorem keyedInt : Keyed Try.prog 3 := int_keyed Try.underlying3
theorem wf_of_in {x : Int} (h : In64 x) : (Lit.int .i64 x).wf = true := by
  obtain ⟨h1, h2⟩ := h
  have e1 : IntKind.i64.min = -9223372036854775808 := by decide
  have e2 : IntKind.i64.max = 9223372036854775807 := by decide
  simp only [Lit.wf, Bool.and_eq_true, decide_eq_true_eq]
  omega
theorem keyInt (x : Int) (h : In64 x) : keyOf Try.prog 3 (.int .i64 x) = some (.int .i64 x) := keyOf_int_mk Try.underlying3 (wf_of_in h)
/-- The expressions of a rule are not too long for the walks. -/
def LightR (r : RuleD) : Prop := r.guard.length ≤ 1000 ∧ r.sets.length ≤ 1000 ∧ ∀ s ∈ r.sets, s.val.length ≤ 1000

set_option maxHeartbeats 8000000 in
theorem formed_any (gv sv : Value) (r : RuleD) (n : Nat) (w : World) (hg : Terms w gv r.guard) (hs : Seq (SetOk w) 2 w sv r.sets) (hin : RuleIn r) (hl : LightR r) (hn : n ≤ 1000) :
    Calls Try.prog 25 #[.agg #[.string r.name, gv, sv], .int .i64 n] w fun e w' => e = .returned (.bool (formedB r n)) ∧ Below w.heap.size w w' := by
  obtain ⟨hl1, hl2, hl3⟩ := hl
  obtain ⟨_, _, hi3⟩ := hin
  have HI := Lib.hid hi3
  have HL := Lib.hid hl3
  have HG := Lib.hid hg
  have HS := Lib.hid hs
  obtain ⟨ga, gcap, rfl, g1, g2, g3⟩ := hg.open
  obtain ⟨sa, scap, rfl, s1, s2, s3⟩ := sets_open hs
  have HC := Lib.hid s3
  have hmm := @run_makeMap Try.prog
  clear hi3 hl3 g3 s3 hs hg
  by_cases h0 : r.sets.length = 0
  · have b0 : ((r.sets.length : Int) == 0) = true := by simp [h0]
    have H := Lib.hid (show formedB r n = false by rw [formedB_eq, h0]; rfl)
    have h0' : r.sets.length < 1 := by omega
    clear h0
    go_enter Try.func25, Try.ntmps25
    go_wp2_with fail
    go_ret
    exact ⟨ret_bool H.out.symm, (Below.refl _ _).alloc (Nat.le_refl _) _⟩
  have b0 : ((r.sets.length : Int) == 0) = false := beq_eq_false_iff_ne.2 (by omega)
  by_cases h6 : 6 < r.sets.length
  · have H := Lib.hid (show formedB r n = false by rw [formedB_eq]; simp; omega)
    have b6 : decide (6 < r.sets.length) = true := by simp; omega
    go_enter Try.func25, Try.ntmps25
    go_wp2_with fail
    go_ret
    exact ⟨ret_bool H.out.symm, (Below.refl _ _).alloc (Nat.le_refl _) _⟩
  have b6 : decide (6 < r.sets.length) = false := by simp; omega
  have b6' : decide (6 < (r.sets.length : Int)) = false := by simp; omega
  have b1 : decide (1 ≤ r.sets.length) = true := by simp; omega
  have b1' : decide (r.sets.length ≤ 6) = true := by simp; omega
  rcases Bool.eq_false_or_eq_true (validB r.guard n) with q0 | q0
  rotate_left
  · have H := Lib.hid (show formedB r n = false by rw [formedB_eq, q0]; simp)
    go_enter Try.func25, Try.ntmps25
    go_wp2_with fail
    refine (valid_any _ r.guard _ _ hl1 (by exact HG.out.below ((Below.refl _ _).alloc (Nat.le_refl _) _))).mono ?_
    rintro e w1 ⟨rfl, hb1⟩
    go_wp2_with fail
    go_ret
    exact ⟨ret_bool H.out.symm, box_below (by simpa using hb1)⟩
  have H0 := Lib.hid (show formedB r n = setsB r.sets n by rw [formedB_eq, q0, b1, b1']; rfl)
  clear b1 b1'
  go_enter Try.func25, Try.ntmps25
  go_wp2_with fail
  refine (valid_any _ r.guard _ _ hl1 (by exact HG.out.below ((Below.refl _ _).alloc (Nat.le_refl _) _))).mono ?_
  rintro e w1 ⟨rfl, hb1'⟩
  have hb1 : Below (w.heap.size + 1) (w.alloc (.cells #[.string r.name, .slice ga r.guard.length gcap, .slice sa r.sets.length scap] 32)) w1 := by simpa using hb1'
  have hbs1 := box_size hb1
  have hbox := box_at hb1 2
  simp at hbox
  have hne : w.heap.size ≠ w1.heap.size := by omega
  have hlt0 : w.heap.size < w1.heap.size := by omega
  clear hb1'
  go_wp2_with fail
  have hb0 : Below (w.heap.size + 1) (w.alloc (.cells #[.string r.name, .slice ga r.guard.length gcap, .slice sa r.sets.length scap] 32)) (w1.alloc (.map #[] 0)) := hb1.alloc hbs1 _
  go_loopw [7, 29] (fun _ i wr => ∃ k : Nat, k ≤ r.sets.length ∧ i = .int .i64 k ∧ Hid (SetsAt r.sets n w1.heap.size k wr) ∧ Hid (Below (w.heap.size + 1) (w.alloc (.cells #[.string r.name, .slice ga r.guard.length gcap, .slice sa r.sets.length scap] 32)) wr)) (fun _ i _ => r.sets.length - (intOf i).toNat)
  case atStart => exact ⟨0, by omega, rfl, ⟨by rw [List.take_zero]; simpa [ilits] using setMap_made Try.prog 3 4 w1, rfl⟩, hb0⟩
  case round =>
    clear hb0 hbox hne hlt0
    obtain ⟨k, hk, rfl, hset, hbel⟩ := hrel
    have hbw := box_below hbel.out
    have hbs := box_size hbel.out
    by_cases hlt : k < r.sets.length
    · obtain ⟨g, o, rfl, hg, hc⟩ := HC.out (by omega)
      obtain ⟨x, hx⟩ : ∃ x, r.sets[k]? = some x := ⟨_, List.getElem?_eq_getElem hlt⟩
      obtain ⟨tv, ht, c0, c1⟩ := hc k x hx
      have HT := Lib.hid ht
      obtain ⟨ta, tcap, rfl, _, _, _⟩ := ht.open
      rw [← hbw.cell (p := ⟨g, _, none⟩) hg] at c0 c1
      have hgx : r.sets[k] = x := (List.getElem?_eq_some_iff.1 hx).2
      have hxi := HI.out x (List.mem_of_getElem? hx)
      have hxl := HL.out x (List.mem_of_getElem? hx)
      have HXI := Lib.hid hxi
      have HGX := Lib.hid hgx
      clear hc ht hx hgx hxi
      rcases Bool.eq_false_or_eq_true (withinB x.var 0 ((n : Int) - 1)) with q1 | q1
      rotate_left
      · have H := Lib.hid (show formedB r n = false by rw [H0.out, sets_bad k hlt (by rw [HGX.out, setB, q1]; rfl)])
        go_wp2_with (go_at_call 42; refine (within_any _ _ _ _).mono ?_; rintro e w2 ⟨rfl, rfl⟩)
        go_ret
        exact ⟨ret_bool H.out.symm, hbw.alloc (by omega) _⟩
      by_cases hmem : x.var ∈ (r.sets.take k).map (·.var)
      · have H := Lib.hid (show formedB r n = false by rw [H0.out, sets_again hlt (by rw [HGX.out]; exact hmem)])
        have hlook : ∀ ob : Obj, (Instr.lookup 68 (.map (some w1.heap.size)) (.int .i64 x.var) false).run Try.prog (wr.alloc ob) = .ok (.bool true) (wr.alloc ob) := fun ob =>
          (hset.out.1.below ((Below.refl _ _).alloc (Nat.le_refl _) ob)).look keyedInt Try.underlying68 Try.underlying4 (zeroBool _) (keyInt x.var HXI.out.1) true (.inl ⟨mem_ilits.2 hmem, rfl⟩)
        clear hmem
        go_wp2_with (go_at_call 42; refine (within_any _ _ _ _).mono ?_; rintro e w2 ⟨rfl, rfl⟩)
        go_ret
        exact ⟨ret_bool H.out.symm, hbw.alloc (by omega) _⟩
      have hlook : ∀ ob : Obj, (Instr.lookup 68 (.map (some w1.heap.size)) (.int .i64 x.var) false).run Try.prog (wr.alloc ob) = .ok (.bool false) (wr.alloc ob) := fun ob =>
          (hset.out.1.below ((Below.refl _ _).alloc (Nat.le_refl _) ob)).look keyedInt Try.underlying68 Try.underlying4 (zeroBool _) (keyInt x.var HXI.out.1) false (.inr ⟨fun h => hmem (mem_ilits.1 h), rfl⟩)
      rcases Bool.eq_false_or_eq_true (validB x.val n) with q2 | q2
      rotate_left
      · have H := Lib.hid (show formedB r n = false by rw [H0.out, sets_bad k hlt (by rw [HGX.out, setB, q2]; simp)])
        clear hmem
        go_wp2_with (go_at_call 42; refine (within_any _ _ _ _).mono ?_; rintro e w2 ⟨rfl, rfl⟩)
        refine (valid_any _ x.val _ _ hxl (by exact HT.out.below (hbw.alloc (by omega) _))).mono ?_
        rintro e w2 ⟨rfl, hb2⟩
        go_wp2_with fail
        go_ret
        exact ⟨ret_bool H.out.symm, (hbw.alloc (by omega) _).trans (hb2.mono (by simp; omega))⟩
      · have HST := Lib.hid (sets_step (n := (n : Int)) k hlt hset.out.2 (by rw [HGX.out, setB, q1, q2]; rfl) (by rw [HGX.out]; exact hmem))
        have HLT := Lib.hid (show ilits (r.sets.take k) ++ [.int .i64 x.var] = ilits (r.sets.take (k + 1)) by rw [← ilits_step _ k hlt, HGX.out])
        clear hmem
        go_wp2_with (go_at_call 42; refine (within_any _ _ _ _).mono ?_; rintro e w2 ⟨rfl, rfl⟩)
        refine (valid_any _ x.val _ _ hxl (by exact HT.out.below (hbw.alloc (by omega) _))).mono ?_
        rintro e w2 ⟨rfl, hb2'⟩
        have hb2 : Below (wr.heap.size + 1) (wr.alloc (.cells #[.int .i64 x.var, .slice ta x.val.length tcap] 38)) w2 := by simpa using hb2'
        have hbx := box_at hb2 0
        have hbs2 := box_size hb2
        simp at hbx
        clear hb2' hlook
        go_wp2_with (at_mapUpdate; refine wpList_setMap_add rfl _ _ _ 68 rfl 3 4 keyedInt Try.underlying68 Try.underlying4 w1.heap.size k _ rfl (by exact hset.out.1.below (box_below hb2)) (by unfold maxLen; omega) _ (.int .i64 x.var) rfl rfl (keyInt x.var HXI.out.1) ?_; intro w3 hset3 hgrow)
        refine ⟨⟨k + 1, by omega, by go_num, ⟨?_, HST.out⟩, ?_⟩, by simp [intOf]; omega⟩
        · rw [HLT.out] at hset3; exact hset3
        · exact (hbel.out.trans ((box_below hb2).mono hbs)).grown hgrow (by omega) (fun q hq => by cases hq; exact hbs1)
    · obtain rfl : k = r.sets.length := by omega
      have H := hset.out.2
      rw [List.take_of_length_le (by simp)] at H
      have H2 := Lib.hid (show formedB r n = true by rw [H0.out, H])
      clear H
      go_wp2_with fail
      go_ret
      exact ⟨ret_bool H2.out.symm, hbw⟩
end Go.Proofs.Ytogennegbihceaa
