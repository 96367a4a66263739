/- Part 19 of the texts under MemoryReadsAndWrites,MemoryReadsBack: joined, with what it needs alone. -/
import Derived.Test.YtmlkdoimkdbdpaaGreatDoorL7
import Derived.Test.YtmlkdoimkdbdpaaGreatDoorL9
import Derived.Test.YtmlkdoimkdbdpaaGreatDoorL18
set_option linter.unusedVariables false
set_option maxRecDepth 100000
set_option maxHeartbeats 4000000
namespace Go.Proofs.YtmlkdoimkdbdpaaGreatDoor
open Go.RowKit
def yes (val : List AV → AV) (rows : List (List AV)) : List (List AV) := (List.range rows.length).map fun (k : Nat) => [i64 ((rows.length : Int) - 1 - (k : Int)), val (rows.getD (rows.length - 1 - k) [])]
theorem backEls_len (val : List AV → AV) (rows : List (List AV)) : (yes val rows).length = rows.length := by simp [yes]
theorem backEls_get {val : List AV → AV} {rows : List (List AV)} {k : Nat} {el : List AV} (h : (yes val rows)[k]? = some el) : k < rows.length ∧ ∃ row, rows[rows.length - 1 - k]? = some row ∧ el = [i64 ((rows.length : Int) - 1 - k), val row] := by
  have hk : k < rows.length := by have := (List.getElem?_eq_some_iff.1 h).1; rwa [backEls_len] at this
  obtain ⟨row, hrow⟩ : ∃ row, rows[rows.length - 1 - k]? = some row := ⟨_, List.getElem?_eq_getElem (by omega)⟩
  refine ⟨hk, row, hrow, ?_⟩
  simp only [yes, List.getElem?_map, List.getElem?_range hk, Option.map_some, Option.some.injEq, List.getD_eq_getElem?_getD, hrow, Option.getD_some] at h
  exact h.symm
theorem put_eval_same {a : Act} {d : Nat} {u : Value} (h : d < a.tmps.size) : (a.put (some d) u).eval (.tmp d) = u := by
  simp [Act.put, Act.eval, Array.getD, h]
theorem put_eval_ne {a : Act} {d x : Nat} {u : Value} (h : x ≠ d) : (a.put (some d) u).eval (.tmp x) = a.eval (.tmp x) := by
  simp only [Act.put, Act.eval, Array.getD_eq_getD_getElem?, Array.getElem?_setIfInBounds]
  rw [if_neg (by omega)]
theorem ev_const {a : Act} {v : Value} : a.eval (.const v) = v := rfl
theorem put_size {a : Act} {d : Nat} {u : Value} : (a.put (some d) u).tmps.size = a.tmps.size := by simp [Act.put]
theorem put_defers {a : Act} {d : Option Nat} {u : Value} : (a.put d u).defers = a.defers := by cases d <;> rfl
theorem opI2 {P : Program} {n : Nat} {ops : Array Oper} {Q : Exit → Act → World → Prop} {a : Act} {w : World} {i d : Nat} {rest : List Nat} {o : Oper} (u : Value) (hlt : d < a.tmps.size) (ho : ops[i]? = some o) (hdst : o.dst = some d) (hg : o.guard = none) (hd : isDefer o.op = false) (hr : (execOp a.eval o).run P w = .ok (.value u) w)
    (k : ∀ a' : Act, a'.tmps.size = a.tmps.size → a'.defers = a.defers → a'.eval (.tmp d) = u → (∀ x, x ≠ d → a'.eval (.tmp x) = a.eval (.tmp x)) → wpOpsIn Fence.wide n P ops Q rest a' w) : wpOpsIn Fence.wide n P ops Q (i :: rest) a w :=
  opI u ho hg hd hr (by rw [hdst]; exact k _ put_size put_defers (put_eval_same hlt) fun x hx => put_eval_ne hx)
theorem relAll1' {ok : Nat → Prop} {w : World} {lv : Live} {a : AV} {cs : List Value} (h : ybt ok w lv [a] cs) : ∃ u, cs = [u] ∧ Rel ok w lv a u := by
  match cs, h.1 with
  | [u], _ => exact ⟨u, rfl, h.2 0 _ _ rfl rfl⟩
theorem slice_rows {ok : Nat → Prop} {w : World} {lv : Live} {size : Nat} {rows : List (List AV)} {v : Value} (h : Rel ok w lv (.sl size rows) v) : ∃ ad cap, v = .slice ad rows.length cap ∧ ∀ (i : Nat) (row : List AV), rows[i]? = some row → ∃ g q, ad = some ⟨g, q, none⟩ ∧ ok g ∧ CellsAt ok w (fun _ => none) g (q + i * size) row := by
  cases h with
  | sl ad cap u g q hn hc ha hsz hg hcell hrel =>
    refine ⟨ad, cap, rfl, fun i row hrow => ?_⟩
    obtain ⟨rfl, hok⟩ := hg (by intro h; simp [h] at hrow)
    exact ⟨g, q, rfl, hok, fun j x hx => ⟨(hcell i j row x hrow hx).2, _, (hcell i j row x hrow hx).1, hrel i j row x hrow hx⟩⟩

theorem backO_iter (rows : List (List AV)) (val : List AV → AV) (hval : ∀ row ∈ rows, getA false 1 row = some (val row)) : IterCon Tryz.prog 56 [.dp [.sl 1 rows] 0] (yes val rows) := by
  refine ⟨⟨_, Tryz.func56, rfl, rfl⟩, fun l ok W us J X hok hcaps hJ hJg hXg hround h0 => ?_⟩
  obtain ⟨pv, rfl, hp⟩ := relAll1' hcaps
  obtain ⟨pg, po, hpv, hpok, hpc⟩ := cells_of_dp hp
  rw [Nat.add_zero] at hpv
  subst hpv
  obtain ⟨_, sv, hsv, hsr⟩ := hpc 0 (.sl 1 rows) rfl
  obtain ⟨ad, cap, rfl, hrows⟩ := slice_rows hsr
  rw [Nat.add_zero] at hsv
  have hcell : ∀ {k W'}, J k W' → W'.cell? ⟨pg, po, none⟩ = some (.slice ad rows.length cap) := fun hj => (World.cell?_of_block (w := W) ((hJ _ _ hj).2 pg hpok)).trans hsv
  have hload : ∀ {W' : World}, W'.cell? ⟨pg, po, none⟩ = some (.slice ad rows.length cap) → (loadVar 63 ⟨pg, po, none⟩).run Tryz.prog W' = .ok (.slice ad rows.length cap) W' := by
    intro W' hc
    obtain ⟨u, h1, h2⟩ := load_run (P := Tryz.prog) (ok := fun _ => True) (w := W') (lv := fun _ => none) (g := pg) (o := po) (xs := [.v (.slice ad rows.length cap)]) (t := 63) (s := 1) (ag := false) (r := .v (.slice ad rows.length cap)) (tok _ _ (show TT 63 = some _ from rfl)).1 (fun j x hx => by
      match j with
      | 0 => simp only [List.getElem?_cons_zero, Option.some.injEq] at hx; subst hx; exact ⟨rfl, _, hc, .v _⟩
      | j + 1 => simp at hx) rfl
    cases h2
    exact h1
  have hkind := (tok _ _ (show TT 63 = some _ from rfl)).2.2
  refine callsIn_of_wp Tryz.func56 rfl trivial ?_
  rw [Tryz.ntmps56]
  refine wpIn_seq (wpIn_region ?_)
  rw [show (#[Value.func (.yield l) #[] #[]] ++ [Value.pointer (some ⟨pg, po, none⟩)].toArray : Array Value) = [Value.func (.yield l) #[] #[], Value.pointer (some ⟨pg, po, none⟩)].toArray by simp]
  generalize ha : ({ tmps := [Value.func (.yield l) #[] #[], Value.pointer (some ⟨pg, po, none⟩)].toArray ++ Array.replicate (19 - [Value.func (.yield l) #[] #[], Value.pointer (some ⟨pg, po, none⟩)].toArray.size) undef, defers := [] } : Act) = a0
  have hs0 : a0.tmps.size = 19 := by rw [← ha]; simp only [Array.size_append, Array.size_replicate, List.size_toArray, List.length_cons, List.length_nil]
  have e0 : a0.eval (.tmp 0) = .func (.yield l) #[] #[] := by rw [← ha]; simp only [Act.eval]; exact getD_args [Value.func (.yield l) #[] #[], Value.pointer (some ⟨pg, po, none⟩)] _ 0 _ rfl
  have e1 : a0.eval (.tmp 1) = .pointer (some ⟨pg, po, none⟩) := by rw [← ha]; simp only [Act.eval]; exact getD_args [Value.func (.yield l) #[] #[], Value.pointer (some ⟨pg, po, none⟩)] _ 1 _ rfl
  have hd0 : a0.defers = [] := by rw [← ha]
  clear ha
  refine opI2 (d := 4) (.slice ad rows.length cap) (by omega) rfl rfl rfl rfl (by simp [execOp, e1, Instr.loadAt, Instr.sureAddr, hload (hcell h0)]) fun a1 s1 d1 q1 n1 => ?_
  refine opI2 (d := 5) (.int .i64 rows.length) (by omega) rfl rfl rfl rfl (by simp [execOp, resolve, invoke, builtin, Builtin.len_, q1, run_underlying hkind.1, goInt]) fun a2 s2 d2 q2 n2 => ?_
  have hcap : rows.length ≤ 9223372036854775807 := by
    cases hsr with
    | sl ad cap u g q hn hc => unfold maxLen at hc; omega
  refine opI2 (d := 6) (.int .i64 ((rows.length : Int) - 1)) (by omega) rfl rfl rfl rfl (by simp [execOp, q2, ev_const, eqGuard, binOp, Op.intArith, IntWalk.i64_in ((rows.length : Int) - 1) (by omega)]) fun a3 s3 d3 q3 n3 => ?_
  refine opI2 (d := 3) (.int .i64 ((rows.length : Int) - 1)) (by omega) rfl rfl rfl rfl (by simp [execOp, q3]) fun a4 s4 d4 q4 n4 => ?_
  refine wpIn_block (wpIn_loop (fun a w => ∃ k, k ≤ rows.length ∧ J k w ∧ a.tmps.size = 19 ∧ a.defers = [] ∧ a.eval (.tmp 0) = .func (.yield l) #[] #[] ∧ a.eval (.tmp 1) = .pointer (some ⟨pg, po, none⟩) ∧ a.eval (.tmp 3) = .int .i64 ((rows.length : Int) - 1 - k)) (fun a w => (intOf (a.eval (.tmp 3)) + 1).toNat) ⟨0, by omega, h0, by omega, by rw [d4, d3, d2, d1, hd0], by rw [n4 0 (by simp), n3 0 (by simp), n2 0 (by simp), n1 0 (by simp), e0], by rw [n4 1 (by simp), n3 1 (by simp), n2 1 (by simp), n1 1 (by simp), e1], by rw [q4]; simp⟩ ?_)
  clear e0 e1 hs0 hd0 s1 d1 q1 n1 s2 d2 q2 n2 s3 d3 q3 n3 s4 d4 q4 n4 a0 a1 a2 a3 a4
  rintro a0 w ⟨k, hk, hj, hs0, hd0, e0, e1, e3⟩
  refine wpIn_seq (wpIn_seq (wpIn_region ?_))
  refine opI2 (d := 7) _ (by omega) rfl rfl rfl rfl (by simp [execOp, e3]; rfl) fun a1 s1 d1 q1 n1 => ?_
  refine opI2 (d := 8) (.bool (decide (0 ≤ (rows.length : Int) - 1 - k))) (by omega) rfl rfl rfl rfl (by simp [execOp, q1, ev_const, eqGuard, binOp, Op.intCmp]) fun a2 s2 d2 q2 n2 => ?_
  refine wpIn_cond_split q2 (fun hb => ?_) (fun hb => ?_)
  · simp only [decide_eq_true_eq] at hb
    refine wpIn_skip ?_
    have hcl := hcell hj
    obtain ⟨i, hi⟩ : ∃ i : Nat, (rows.length : Int) - 1 - k = i := ⟨rows.length - 1 - k, by omega⟩
    have hik : i = rows.length - 1 - k := by omega
    obtain ⟨row, hrow⟩ : ∃ row, rows[i]? = some row := ⟨_, List.getElem?_eq_getElem (by omega)⟩
    obtain ⟨g, q, rfl, hgok, hcells⟩ := hrows i row hrow
    have hcells' : CellsAt ok w (fun _ => none) g (q + i * 1) row := fun j x hx => by
      obtain ⟨c1, u, c2, c3⟩ := hcells j x hx
      exact ⟨c1, u, (World.cell?_of_block (w := W) ((hJ _ _ hj).2 g hgok)).trans c2, c3.keep fun g' hg' => ⟨hg', (hJ _ _ hj).2 g' hg'⟩⟩
    obtain ⟨uv, hu1, hu2⟩ := load_run (P := Tryz.prog) (tok _ _ (show TT 69 = some _ from rfl)).1 hcells' (hval row (List.mem_of_getElem? hrow))
    refine wpIn_seq (wpIn_block (wpIn_seq (wpIn_region ?_)))
    refine opI2 (d := 11) (.func (.yield l) #[] #[]) (by omega) rfl rfl rfl rfl (by simp [execOp, n2, n1, e0]) fun a3 s3 d3 q3 n3 => ?_
    refine opI2 (d := 12) (.int .i64 i) (by omega) rfl rfl rfl rfl (by simp [execOp, n3, n2, n1, e3, hi]) fun a4 s4 d4 q4 n4 => ?_
    refine opI2 (d := 13) (.slice (some ⟨g, q, none⟩) rows.length cap) (by omega) rfl rfl rfl rfl (by simp [execOp, n4, n3, n2, n1, e1, Instr.loadAt, Instr.sureAddr, hload hcl]) fun a5 s5 d5 q5 n5 => ?_
    refine opI2 (d := 14) (.int .i64 i) (by omega) rfl rfl rfl rfl (by simp [execOp, n5, n4, n3, n2, n1, e3, hi]) fun a6 s6 d6 q6 n6 => ?_
    obtain ⟨z, hz⟩ : ∃ z, q + i * 1 = z := ⟨_, rfl⟩
    rw [hz] at hu1
    refine opI2 (d := 15) (.pointer (some ⟨g, z, none⟩)) (by omega) rfl rfl rfl rfl (by
      have hrun := index_run (P := Tryz.prog) (w := w) (cap := cap) (k := .i64) hkind.1 hkind.2.1 g q rfl (i := (i : Int)) (len := rows.length) (by omega) (by omega)
      simp only [Int.toNat_natCast, hz] at hrun
      simp [execOp, n6, q5, q6, hrun]) fun a7 s7 d7 q7 n7 => ?_
    refine opI2 (d := 16) uv (by omega) rfl rfl rfl rfl (by simp [execOp, q7, Instr.loadAt, Instr.sureAddr, hu1]) fun a8 s8 d8 q8 n8 => ?_
    have hel : (yes val rows)[k]? = some [i64 ((rows.length : Int) - 1 - k), val row] := by
      have hkl : k < (yes val rows).length := by rw [backEls_len]; omega
      obtain ⟨el, hel⟩ : ∃ el, (yes val rows)[k]? = some el := ⟨_, List.getElem?_eq_getElem hkl⟩
      obtain ⟨_, row', hr', rfl⟩ := backEls_get hel
      rw [← hik, hrow] at hr'
      cases hr'
      exact hel
    have hy := hround k _ [.int .i64 i, uv] w hel hj ⟨rfl, fun j x u hx hu => by
      match j with
      | 0 => simp only [List.getElem?_cons_zero, Option.some.injEq] at hx hu; subst hx hu; rw [hi]; exact .v _
      | 1 => simp only [List.getElem?_cons_succ, List.getElem?_cons_zero, Option.some.injEq] at hx hu; subst hx hu; exact hu2
      | j + 2 => simp at hx⟩
    refine opI_yield (g := .tmp 11) (args := #[.tmp 12, .tmp 16]) rfl rfl rfl (by rw [n8 11 (by simp), n7 11 (by simp), n6 11 (by simp), n5 11 (by simp), n4 11 (by simp), q3]) (R := fun e W' => (e = .returned (.bool true) ∧ J (k + 1) W') ∨ (e = .returned (.bool false) ∧ X W')) (by
      have e12 : a8.eval (.tmp 12) = .int .i64 i := by rw [n8 12 (by simp), n7 12 (by simp), n6 12 (by simp), n5 12 (by simp), q4]
      simpa [e12, q8] using hy) fun e w' hR => ?_
    have e0' : a8.eval (.tmp 0) = .func (.yield l) #[] #[] := by rw [n8 0 (by simp), n7 0 (by simp), n6 0 (by simp), n5 0 (by simp), n4 0 (by simp), n3 0 (by simp), n2 0 (by simp), n1 0 (by simp), e0]
    have e1' : a8.eval (.tmp 1) = .pointer (some ⟨pg, po, none⟩) := by rw [n8 1 (by simp), n7 1 (by simp), n6 1 (by simp), n5 1 (by simp), n4 1 (by simp), n3 1 (by simp), n2 1 (by simp), n1 1 (by simp), e1]
    have e3' : a8.eval (.tmp 3) = .int .i64 ((rows.length : Int) - 1 - k) := by rw [n8 3 (by simp), n7 3 (by simp), n6 3 (by simp), n5 3 (by simp), n4 3 (by simp), n3 3 (by simp), n2 3 (by simp), n1 3 (by simp), e3]
    have hd8 : a8.defers = [] := by rw [d8, d7, d6, d5, d4, d3, d2, d1, hd0]
    have hs8 : a8.tmps.size = 19 := by omega
    rcases hR with ⟨rfl, hj1⟩ | ⟨rfl, hx⟩
    · refine ⟨_, rfl, ?_⟩
      show wpOpsIn _ _ _ _ _ _ (a8.put (some 17) (.bool true)) w'
      have s9 : (a8.put (some 17) (.bool true)).tmps.size = 19 := by rw [put_size, hs8]
      have d9 : (a8.put (some 17) (.bool true)).defers = [] := by rw [put_defers, hd8]
      have q9 : (a8.put (some 17) (.bool true)).eval (.tmp 17) = .bool true := put_eval_same (by omega)
      have n9 : ∀ x, x ≠ 17 → (a8.put (some 17) (.bool true)).eval (.tmp x) = a8.eval (.tmp x) := fun x hx => put_eval_ne hx
      generalize a8.put (some 17) (.bool true) = a9 at s9 d9 q9 n9 ⊢
      refine opI2 (d := 18) (.bool false) (by omega) rfl rfl rfl rfl (by simp [execOp, q9, Op.unary]) fun a10 s10 d10 q10 n10 => ?_
      refine wpIn_cond_false q10 (wpIn_skip ?_)
      refine wpIn_region ?_
      refine opI2 (d := 9) _ (by omega) rfl rfl rfl rfl (by simp [execOp, n10, n9, e3']; rfl) fun a11 s11 d11 q11 n11 => ?_
      refine opI2 (d := 10) (.int .i64 ((rows.length : Int) - 1 - k - 1)) (by omega) rfl rfl rfl rfl (by simp [execOp, q11, ev_const, eqGuard, binOp, Op.intArith, IntWalk.i64_in ((rows.length : Int) - 1 - k - 1) (by omega)]) fun a12 s12 d12 q12 n12 => ?_
      refine opI2 (d := 3) (.int .i64 ((rows.length : Int) - 1 - k - 1)) (by omega) rfl rfl rfl rfl (by simp [execOp, q12]) fun a13 s13 d13 q13 n13 => ?_
      refine ⟨⟨k + 1, by omega, hj1, by omega, by rw [d13, d12, d11, d10, d9], by rw [n13 0 (by simp), n12 0 (by simp), n11 0 (by simp), n10 0 (by simp), n9 0 (by simp), e0'], by rw [n13 1 (by simp), n12 1 (by simp), n11 1 (by simp), n10 1 (by simp), n9 1 (by simp), e1'], by rw [q13]; congr 1; omega⟩, ?_⟩
      rw [q13, e3]
      simp only [intOf]
      omega
    · refine ⟨_, rfl, ?_⟩
      show wpOpsIn _ _ _ _ _ _ (a8.put (some 17) (.bool false)) w'
      have s9 : (a8.put (some 17) (.bool false)).tmps.size = 19 := by rw [put_size, hs8]
      have d9 : (a8.put (some 17) (.bool false)).defers = [] := by rw [put_defers, hd8]
      have q9 : (a8.put (some 17) (.bool false)).eval (.tmp 17) = .bool false := put_eval_same (by omega)
      generalize a8.put (some 17) (.bool false) = a9 at s9 d9 q9 ⊢
      refine opI2 (d := 18) (.bool true) (by omega) rfl rfl rfl rfl (by simp [execOp, q9, Op.unary]) fun a10 s10 d10 q10 n10 => ?_
      refine wpIn_cond_true q10 (wpIn_ret ?_)
      refine ⟨?_, .tuple #[], ?_, ⟨_, rfl⟩, .inr hx⟩
      · show a10.defers = []
        rw [d10, d9]
      · simp [results, Tryz.results56]
  · simp only [decide_eq_false_iff_not] at hb
    obtain rfl : k = rows.length := by omega
    refine wpIn_exit ?_
    refine ⟨?_, .tuple #[], ?_, ⟨_, rfl⟩, .inl ?_⟩
    · show a2.defers = []
      rw [d2, d1, hd0]
    · simp [results, Tryz.results56]
    · rw [backEls_len]
      exact hj

theorem backI_iter (rows : List (List AV)) (val : List AV → AV) (hval : ∀ row ∈ rows, getA true 2 row = some (val row)) : IterCon Tryz.prog 57 [.dp [.sl 2 rows] 0] (yes val rows) := by
  refine ⟨⟨_, Tryz.func57, rfl, rfl⟩, fun l ok W us J X hok hcaps hJ hJg hXg hround h0 => ?_⟩
  obtain ⟨pv, rfl, hp⟩ := relAll1' hcaps
  obtain ⟨pg, po, hpv, hpok, hpc⟩ := cells_of_dp hp
  rw [Nat.add_zero] at hpv
  subst hpv
  obtain ⟨_, sv, hsv, hsr⟩ := hpc 0 (.sl 2 rows) rfl
  obtain ⟨ad, cap, rfl, hrows⟩ := slice_rows hsr
  rw [Nat.add_zero] at hsv
  have hcell : ∀ {k W'}, J k W' → W'.cell? ⟨pg, po, none⟩ = some (.slice ad rows.length cap) := fun hj => (World.cell?_of_block (w := W) ((hJ _ _ hj).2 pg hpok)).trans hsv
  have hload : ∀ {W' : World}, W'.cell? ⟨pg, po, none⟩ = some (.slice ad rows.length cap) → (loadVar 69 ⟨pg, po, none⟩).run Tryz.prog W' = .ok (.slice ad rows.length cap) W' := by
    intro W' hc
    obtain ⟨u, h1, h2⟩ := load_run (P := Tryz.prog) (ok := fun _ => True) (w := W') (lv := fun _ => none) (g := pg) (o := po) (xs := [.v (.slice ad rows.length cap)]) (t := 69) (s := 1) (ag := false) (r := .v (.slice ad rows.length cap)) (tok _ _ (show TT 69 = some _ from rfl)).1 (fun j x hx => by
      match j with
      | 0 => simp only [List.getElem?_cons_zero, Option.some.injEq] at hx; subst hx; exact ⟨rfl, _, hc, .v _⟩
      | j + 1 => simp at hx) rfl
    cases h2
    exact h1
  have hkind := (tok _ _ (show TT 69 = some _ from rfl)).2.2
  refine callsIn_of_wp Tryz.func57 rfl trivial ?_
  rw [Tryz.ntmps57]
  refine wpIn_seq (wpIn_region ?_)
  rw [show (#[Value.func (.yield l) #[] #[]] ++ [Value.pointer (some ⟨pg, po, none⟩)].toArray : Array Value) = [Value.func (.yield l) #[] #[], Value.pointer (some ⟨pg, po, none⟩)].toArray by simp]
  generalize ha : ({ tmps := [Value.func (.yield l) #[] #[], Value.pointer (some ⟨pg, po, none⟩)].toArray ++ Array.replicate (19 - [Value.func (.yield l) #[] #[], Value.pointer (some ⟨pg, po, none⟩)].toArray.size) undef, defers := [] } : Act) = a0
  have hs0 : a0.tmps.size = 19 := by rw [← ha]; simp only [Array.size_append, Array.size_replicate, List.size_toArray, List.length_cons, List.length_nil]
  have e0 : a0.eval (.tmp 0) = .func (.yield l) #[] #[] := by rw [← ha]; simp only [Act.eval]; exact getD_args [Value.func (.yield l) #[] #[], Value.pointer (some ⟨pg, po, none⟩)] _ 0 _ rfl
  have e1 : a0.eval (.tmp 1) = .pointer (some ⟨pg, po, none⟩) := by rw [← ha]; simp only [Act.eval]; exact getD_args [Value.func (.yield l) #[] #[], Value.pointer (some ⟨pg, po, none⟩)] _ 1 _ rfl
  have hd0 : a0.defers = [] := by rw [← ha]
  clear ha
  refine opI2 (d := 4) (.slice ad rows.length cap) (by omega) rfl rfl rfl rfl (by simp [execOp, e1, Instr.loadAt, Instr.sureAddr, hload (hcell h0)]) fun a1 s1 d1 q1 n1 => ?_
  refine opI2 (d := 5) (.int .i64 rows.length) (by omega) rfl rfl rfl rfl (by simp [execOp, resolve, invoke, builtin, Builtin.len_, q1, run_underlying hkind.1, goInt]) fun a2 s2 d2 q2 n2 => ?_
  have hcap : rows.length ≤ 9223372036854775807 := by
    cases hsr with
    | sl ad cap u g q hn hc => unfold maxLen at hc; omega
  refine opI2 (d := 6) (.int .i64 ((rows.length : Int) - 1)) (by omega) rfl rfl rfl rfl (by simp [execOp, q2, ev_const, eqGuard, binOp, Op.intArith, IntWalk.i64_in ((rows.length : Int) - 1) (by omega)]) fun a3 s3 d3 q3 n3 => ?_
  refine opI2 (d := 3) (.int .i64 ((rows.length : Int) - 1)) (by omega) rfl rfl rfl rfl (by simp [execOp, q3]) fun a4 s4 d4 q4 n4 => ?_
  refine wpIn_block (wpIn_loop (fun a w => ∃ k, k ≤ rows.length ∧ J k w ∧ a.tmps.size = 19 ∧ a.defers = [] ∧ a.eval (.tmp 0) = .func (.yield l) #[] #[] ∧ a.eval (.tmp 1) = .pointer (some ⟨pg, po, none⟩) ∧ a.eval (.tmp 3) = .int .i64 ((rows.length : Int) - 1 - k)) (fun a w => (intOf (a.eval (.tmp 3)) + 1).toNat) ⟨0, by omega, h0, by omega, by rw [d4, d3, d2, d1, hd0], by rw [n4 0 (by simp), n3 0 (by simp), n2 0 (by simp), n1 0 (by simp), e0], by rw [n4 1 (by simp), n3 1 (by simp), n2 1 (by simp), n1 1 (by simp), e1], by rw [q4]; simp⟩ ?_)
  clear e0 e1 hs0 hd0 s1 d1 q1 n1 s2 d2 q2 n2 s3 d3 q3 n3 s4 d4 q4 n4 a0 a1 a2 a3 a4
  rintro a0 w ⟨k, hk, hj, hs0, hd0, e0, e1, e3⟩
  refine wpIn_seq (wpIn_seq (wpIn_region ?_))
  refine opI2 (d := 7) _ (by omega) rfl rfl rfl rfl (by simp [execOp, e3]; rfl) fun a1 s1 d1 q1 n1 => ?_
  refine opI2 (d := 8) (.bool (decide (0 ≤ (rows.length : Int) - 1 - k))) (by omega) rfl rfl rfl rfl (by simp [execOp, q1, ev_const, eqGuard, binOp, Op.intCmp]) fun a2 s2 d2 q2 n2 => ?_
  refine wpIn_cond_split q2 (fun hb => ?_) (fun hb => ?_)
  · simp only [decide_eq_true_eq] at hb
    refine wpIn_skip ?_
    have hcl := hcell hj
    obtain ⟨i, hi⟩ : ∃ i : Nat, (rows.length : Int) - 1 - k = i := ⟨rows.length - 1 - k, by omega⟩
    have hik : i = rows.length - 1 - k := by omega
    obtain ⟨row, hrow⟩ : ∃ row, rows[i]? = some row := ⟨_, List.getElem?_eq_getElem (by omega)⟩
    obtain ⟨g, q, rfl, hgok, hcells⟩ := hrows i row hrow
    have hcells' : CellsAt ok w (fun _ => none) g (q + i * 2) row := fun j x hx => by
      obtain ⟨c1, u, c2, c3⟩ := hcells j x hx
      exact ⟨c1, u, (World.cell?_of_block (w := W) ((hJ _ _ hj).2 g hgok)).trans c2, c3.keep fun g' hg' => ⟨hg', (hJ _ _ hj).2 g' hg'⟩⟩
    obtain ⟨uv, hu1, hu2⟩ := load_run (P := Tryz.prog) (tok _ _ (show TT 87 = some _ from rfl)).1 hcells' (hval row (List.mem_of_getElem? hrow))
    refine wpIn_seq (wpIn_block (wpIn_seq (wpIn_region ?_)))
    refine opI2 (d := 11) (.func (.yield l) #[] #[]) (by omega) rfl rfl rfl rfl (by simp [execOp, n2, n1, e0]) fun a3 s3 d3 q3 n3 => ?_
    refine opI2 (d := 12) (.int .i64 i) (by omega) rfl rfl rfl rfl (by simp [execOp, n3, n2, n1, e3, hi]) fun a4 s4 d4 q4 n4 => ?_
    refine opI2 (d := 13) (.slice (some ⟨g, q, none⟩) rows.length cap) (by omega) rfl rfl rfl rfl (by simp [execOp, n4, n3, n2, n1, e1, Instr.loadAt, Instr.sureAddr, hload hcl]) fun a5 s5 d5 q5 n5 => ?_
    refine opI2 (d := 14) (.int .i64 i) (by omega) rfl rfl rfl rfl (by simp [execOp, n5, n4, n3, n2, n1, e3, hi]) fun a6 s6 d6 q6 n6 => ?_
    obtain ⟨z, hz⟩ : ∃ z, q + i * 2 = z := ⟨_, rfl⟩
    rw [hz] at hu1
    refine opI2 (d := 15) (.pointer (some ⟨g, z, none⟩)) (by omega) rfl rfl rfl rfl (by
      have hrun := index_run (P := Tryz.prog) (w := w) (cap := cap) (k := .i64) hkind.1 hkind.2.1 g q rfl (i := (i : Int)) (len := rows.length) (by omega) (by omega)
      simp only [Int.toNat_natCast, hz] at hrun
      simp [execOp, n6, q5, q6, hrun]) fun a7 s7 d7 q7 n7 => ?_
    refine opI2 (d := 16) uv (by omega) rfl rfl rfl rfl (by simp [execOp, q7, Instr.loadAt, Instr.sureAddr, hu1]) fun a8 s8 d8 q8 n8 => ?_
    have hel : (yes val rows)[k]? = some [i64 ((rows.length : Int) - 1 - k), val row] := by
      have hkl : k < (yes val rows).length := by rw [backEls_len]; omega
      obtain ⟨el, hel⟩ : ∃ el, (yes val rows)[k]? = some el := ⟨_, List.getElem?_eq_getElem hkl⟩
      obtain ⟨_, row', hr', rfl⟩ := backEls_get hel
      rw [← hik, hrow] at hr'
      cases hr'
      exact hel
    have hy := hround k _ [.int .i64 i, uv] w hel hj ⟨rfl, fun j x u hx hu => by
      match j with
      | 0 => simp only [List.getElem?_cons_zero, Option.some.injEq] at hx hu; subst hx hu; rw [hi]; exact .v _
      | 1 => simp only [List.getElem?_cons_succ, List.getElem?_cons_zero, Option.some.injEq] at hx hu; subst hx hu; exact hu2
      | j + 2 => simp at hx⟩
    refine opI_yield (g := .tmp 11) (args := #[.tmp 12, .tmp 16]) rfl rfl rfl (by rw [n8 11 (by simp), n7 11 (by simp), n6 11 (by simp), n5 11 (by simp), n4 11 (by simp), q3]) (R := fun e W' => (e = .returned (.bool true) ∧ J (k + 1) W') ∨ (e = .returned (.bool false) ∧ X W')) (by
      have e12 : a8.eval (.tmp 12) = .int .i64 i := by rw [n8 12 (by simp), n7 12 (by simp), n6 12 (by simp), n5 12 (by simp), q4]
      simpa [e12, q8] using hy) fun e w' hR => ?_
    have e0' : a8.eval (.tmp 0) = .func (.yield l) #[] #[] := by rw [n8 0 (by simp), n7 0 (by simp), n6 0 (by simp), n5 0 (by simp), n4 0 (by simp), n3 0 (by simp), n2 0 (by simp), n1 0 (by simp), e0]
    have e1' : a8.eval (.tmp 1) = .pointer (some ⟨pg, po, none⟩) := by rw [n8 1 (by simp), n7 1 (by simp), n6 1 (by simp), n5 1 (by simp), n4 1 (by simp), n3 1 (by simp), n2 1 (by simp), n1 1 (by simp), e1]
    have e3' : a8.eval (.tmp 3) = .int .i64 ((rows.length : Int) - 1 - k) := by rw [n8 3 (by simp), n7 3 (by simp), n6 3 (by simp), n5 3 (by simp), n4 3 (by simp), n3 3 (by simp), n2 3 (by simp), n1 3 (by simp), e3]
    have hd8 : a8.defers = [] := by rw [d8, d7, d6, d5, d4, d3, d2, d1, hd0]
    have hs8 : a8.tmps.size = 19 := by omega
    rcases hR with ⟨rfl, hj1⟩ | ⟨rfl, hx⟩
    · refine ⟨_, rfl, ?_⟩
      show wpOpsIn _ _ _ _ _ _ (a8.put (some 17) (.bool true)) w'
      have s9 : (a8.put (some 17) (.bool true)).tmps.size = 19 := by rw [put_size, hs8]
      have d9 : (a8.put (some 17) (.bool true)).defers = [] := by rw [put_defers, hd8]
      have q9 : (a8.put (some 17) (.bool true)).eval (.tmp 17) = .bool true := put_eval_same (by omega)
      have n9 : ∀ x, x ≠ 17 → (a8.put (some 17) (.bool true)).eval (.tmp x) = a8.eval (.tmp x) := fun x hx => put_eval_ne hx
      generalize a8.put (some 17) (.bool true) = a9 at s9 d9 q9 n9 ⊢
      refine opI2 (d := 18) (.bool false) (by omega) rfl rfl rfl rfl (by simp [execOp, q9, Op.unary]) fun a10 s10 d10 q10 n10 => ?_
      refine wpIn_cond_false q10 (wpIn_skip ?_)
      refine wpIn_region ?_
      refine opI2 (d := 9) _ (by omega) rfl rfl rfl rfl (by simp [execOp, n10, n9, e3']; rfl) fun a11 s11 d11 q11 n11 => ?_
      refine opI2 (d := 10) (.int .i64 ((rows.length : Int) - 1 - k - 1)) (by omega) rfl rfl rfl rfl (by simp [execOp, q11, ev_const, eqGuard, binOp, Op.intArith, IntWalk.i64_in ((rows.length : Int) - 1 - k - 1) (by omega)]) fun a12 s12 d12 q12 n12 => ?_
      refine opI2 (d := 3) (.int .i64 ((rows.length : Int) - 1 - k - 1)) (by omega) rfl rfl rfl rfl (by simp [execOp, q12]) fun a13 s13 d13 q13 n13 => ?_
      refine ⟨⟨k + 1, by omega, hj1, by omega, by rw [d13, d12, d11, d10, d9], by rw [n13 0 (by simp), n12 0 (by simp), n11 0 (by simp), n10 0 (by simp), n9 0 (by simp), e0'], by rw [n13 1 (by simp), n12 1 (by simp), n11 1 (by simp), n10 1 (by simp), n9 1 (by simp), e1'], by rw [q13]; congr 1; omega⟩, ?_⟩
      rw [q13, e3]
      simp only [intOf]
      omega
    · refine ⟨_, rfl, ?_⟩
      show wpOpsIn _ _ _ _ _ _ (a8.put (some 17) (.bool false)) w'
      have s9 : (a8.put (some 17) (.bool false)).tmps.size = 19 := by rw [put_size, hs8]
      have d9 : (a8.put (some 17) (.bool false)).defers = [] := by rw [put_defers, hd8]
      have q9 : (a8.put (some 17) (.bool false)).eval (.tmp 17) = .bool false := put_eval_same (by omega)
      generalize a8.put (some 17) (.bool false) = a9 at s9 d9 q9 ⊢
      refine opI2 (d := 18) (.bool true) (by omega) rfl rfl rfl rfl (by simp [execOp, q9, Op.unary]) fun a10 s10 d10 q10 n10 => ?_
      refine wpIn_cond_true q10 (wpIn_ret ?_)
      refine ⟨?_, .tuple #[], ?_, ⟨_, rfl⟩, .inr hx⟩
      · show a10.defers = []
        rw [d10, d9]
      · simp [results, Tryz.results57]
  · simp only [decide_eq_false_iff_not] at hb
    obtain rfl : k = rows.length := by omega
    refine wpIn_exit ?_
    refine ⟨?_, .tuple #[], ?_, ⟨_, rfl⟩, .inl ?_⟩
    · show a2.defers = []
      rw [d2, d1, hd0]
    · simp [results, Tryz.results57]
    · rw [backEls_len]
      exact hj

end Go.Proofs.YtmlkdoimkdbdpaaGreatDoor
set_option linter.unusedVariables false
set_option maxRecDepth 100000
set_option maxHeartbeats 8000000
namespace Go.Proofs.YtmlkdoimkdbdpaaGreatDoor
open Go.RowKit
theorem backO_con (rows : List (List AV)) : Con Tryz.prog 38 [.sl 1 rows] (.fn 56 [.dp [.sl 1 rows] 0]) := by
  refine ybs Tryz.func38 rfl rfl Tryz.ntmps38 Tryz.results38 rfl rfl ?_
  (repeat (first | refine zI ?_ | refine zL ?_ | refine zC ?_ | refine yai ?_ | refine yaj ?_ | refine zR ?_ | refine zD ?_ | refine zK ?_ | refine zB ?_ | refine zA ?_ | refine zS ?_ | refine zU ?_ | refine zV ?_ | refine zF ?_ | with_reducible refine yac ?_ | with_reducible refine yag ?_ | refine yad ?_ | refine yae ?_ | refine yaf ?_ | refine zT ?_ | refine zE ?_ | refine zX ?_))
  refine yas ?_; refine ⟨_, rfl, ?_⟩
  exact Frz.fn1 (Frz.box rfl rfl)
theorem backI_con (rows : List (List AV)) : Con Tryz.prog 39 [.sl 2 rows] (.fn 57 [.dp [.sl 2 rows] 0]) := by
  refine ybs Tryz.func39 rfl rfl Tryz.ntmps39 Tryz.results39 rfl rfl ?_
  (repeat (first | refine zI ?_ | refine zL ?_ | refine zC ?_ | refine yai ?_ | refine yaj ?_ | refine zR ?_ | refine zD ?_ | refine zK ?_ | refine zB ?_ | refine zA ?_ | refine zS ?_ | refine zU ?_ | refine zV ?_ | refine zF ?_ | with_reducible refine yac ?_ | with_reducible refine yag ?_ | refine yad ?_ | refine yae ?_ | refine yaf ?_ | refine zT ?_ | refine zE ?_ | refine zX ?_))
  refine yas ?_; refine ⟨_, rfl, ?_⟩
  exact Frz.fn1 (Frz.box rfl rfl)
def lowC (tbl : List (List (Int × Int))) : List (List Int) := tbl.map fun r => r.map (·.1)
def lowV (tbl : List (List (Int × Int))) (i j : Nat) : Int := ((tbl.getD i []).getD j (0, 0)).1
theorem unrank1_con (tbl : List (List (Int × Int))) (i j : Nat) (r : List (Int × Int)) (hr : tbl[i]? = some r) (hj : j < r.length) : Con Tryz.prog 37 [i64 i, i64 j, .dp [yfj tbl] 0] (i64 (lowV tbl i j)) := by
  obtain ⟨q, hq⟩ := yeh hj
  refine ybs Tryz.func37 rfl rfl Tryz.ntmps37 Tryz.results37 rfl rfl ?_
  (repeat (first | refine zI ?_ | refine zL ?_ | refine zC ?_ | refine yai ?_ | refine yaj ?_ | refine zR ?_ | refine zD ?_ | refine zK ?_ | refine zB ?_ | refine zA ?_ | refine zS ?_ | refine zU ?_ | refine zV ?_ | refine zF ?_ | with_reducible refine yac ?_ | with_reducible refine yag ?_ | refine yad ?_ | refine yae ?_ | refine yaf ?_ | refine zT ?_ | refine zE ?_ | refine zX ?_))
  refine yas ?_; refine ⟨_, rfl, ?_⟩
  exact ydb (by simp [lowV, List.getD_eq_getElem?_getD, hr, hq])
theorem built_low (tbl : List (List (Int × Int))) : builtR tbl (lowV tbl) = matR (lowC tbl) := by
  apply List.ext_getElem?
  intro i
  simp only [matR, lowC, List.map_map, List.getElem?_map]
  cases hr : tbl[i]? with
  | none => simp [builtR, List.getElem?_mapIdx, hr]
  | some r =>
    rw [builtR_get hr]
    simp only [Option.map_some, Option.some.injEq, Function.comp]
    apply List.ext_getElem?
    intro j
    simp only [List.getElem?_map]
    by_cases hj : j < r.length
    · obtain ⟨q, hq⟩ := yeh hj
      rw [List.getElem?_range hj, hq]
      simp [lowV, List.getD_eq_getElem?_getD, hr, hq]
    · rw [List.getElem?_eq_none (by simpa using hj), List.getElem?_eq_none (by omega)]; rfl
def pairC (q : List (List Int) × Int) : AV := .tup [encC q.1, i64 q.2]
theorem frz_cfg {f : List (Nat × Option LObj)} {M : Nat} {rows : List (List AV)} {c : List (List Int)} {n : Nat} (hf : lowH f = true) (hM : Nat.blt M 1000000 = true) (hk : (f.all fun x => !Nat.beq x.1 M) = true) (hn : n = c.length) (hr : rows = matR c) : Frz (yap (f ++ yei M 1 rows [])) (.ls M 1 n) (encC c) := by
  subst hn hr
  have := Frz.mat (f := f) (M := M) (sz := 1) (rows := matR c) (els := c.map fun r => r.map fun x => [i64 x]) hf hM hk (by omega) (by intro r hr e he; obtain ⟨r0, _, rfl⟩ := List.mem_map.1 hr; obtain ⟨q, _, rfl⟩ := List.mem_map.1 he; rfl) (n := c.length) (by simp) (by simp only [matR, List.map_map]; congr 1; funext r; exact (ints_flatM r).symm)
  simpa [encC, ybk, List.map_map, Function.comp_def] using this
end Go.Proofs.YtmlkdoimkdbdpaaGreatDoor
set_option linter.unusedVariables false
set_option maxRecDepth 100000
set_option maxHeartbeats 8000000
namespace Go.Proofs.YtmlkdoimkdbdpaaGreatDoor
open Go.RowKit
def rgW (b : Int × Int) : Int := b.2 - b.1 + 1
def unRow (k : Int) : List (Int × Int) → List Int × Int
  | [] => ([], k)
  | b :: r => ((b.1 + (unRow k r).2.tmod (rgW b)) :: (unRow k r).1, (unRow k r).2.tdiv (rgW b))
def unTab (k : Int) : List (List (Int × Int)) → List (List Int) × Int
  | [] => ([], k)
  | r :: t => ((unRow (unTab k t).2 r).1 :: (unTab k t).1, (unRow (unTab k t).2 r).2)
theorem unRow_len (k : Int) : ∀ r, (unRow k r).1.length = r.length
  | [] => rfl
  | b :: r => by simp [unRow, unRow_len k r]
theorem unTab_len (k : Int) : ∀ t, (unTab k t).1.length = t.length
  | [] => rfl
  | r :: t => by simp [unTab, unTab_len k t]
theorem tdiv_bd {k w : Int} (h0 : 0 ≤ k) (hw : 1 ≤ w) : 0 ≤ k.tdiv w ∧ k.tdiv w ≤ k := by
  rw [Int.tdiv_eq_ediv_of_nonneg h0]
  exact ⟨Int.ediv_nonneg h0 (by omega), Int.ediv_le_self w h0⟩
theorem tmod_bd {k w : Int} (h0 : 0 ≤ k) (hw : 1 ≤ w) : 0 ≤ k.tmod w ∧ k.tmod w < w := by
  rw [Int.tmod_eq_emod_of_nonneg h0]
  exact ⟨Int.emod_nonneg k (by omega), Int.emod_lt_of_pos k (by omega)⟩
theorem unRow_bd {k : Int} (h0 : 0 ≤ k) : ∀ r : List (Int × Int), (∀ b ∈ r, RgOk b) → 0 ≤ (unRow k r).2 ∧ (unRow k r).2 ≤ k
  | [], _ => ⟨h0, Int.le_refl _⟩
  | b :: r, h => by
    have ih := unRow_bd h0 r fun x hx => h x (by simp [hx])
    have hb := h b (by simp)
    have := tdiv_bd (w := rgW b) ih.1 (by unfold rgW; have := hb.2.1; omega)
    simp only [unRow]
    omega
theorem unTab_bd {k : Int} (h0 : 0 ≤ k) : ∀ t : List (List (Int × Int)), (∀ r ∈ t, ∀ b ∈ r, RgOk b) → 0 ≤ (unTab k t).2 ∧ (unTab k t).2 ≤ k
  | [], _ => ⟨h0, Int.le_refl _⟩
  | r :: t, h => by
    have ih := unTab_bd h0 t fun x hx => h x (by simp [hx])
    have := unRow_bd ih.1 r (h r (by simp))
    simp only [unTab]
    omega
theorem drop_getM {α : Type} {l : List α} {x : Nat} {b : α} (h : l[x]? = some b) : l.drop x = b :: l.drop (x + 1) := by
  rw [List.drop_eq_getElem_cons (List.getElem?_eq_some_iff.1 h).1, (List.getElem?_eq_some_iff.1 h).2]
def wayR (k : Int) (r : List (Int × Int)) (x : Nat) : List Int := (r.take x).map (·.1) ++ (unRow k (r.drop x)).1
def wayT (k : Int) (t : List (List (Int × Int))) (v : Nat) : List (List Int) := lowC (t.take v) ++ (unTab k (t.drop v)).1
theorem wayR_len (k : Int) (r : List (Int × Int)) {x : Nat} : (wayR k r x).length = r.length := by
  simp [wayR, unRow_len]; omega
theorem wayR_at {k : Int} {r : List (Int × Int)} {x : Nat} {b : Int × Int} (h : r[x]? = some b) : (wayR k r (x + 1))[x]? = some b.1 := by
  have hx := (List.getElem?_eq_some_iff.1 h).1
  unfold wayR
  rw [List.getElem?_append_left (by simp; omega), List.getElem?_map, List.getElem?_take, if_pos (by omega), h]; rfl
theorem wayR_set {k : Int} {r : List (Int × Int)} {x : Nat} {b : Int × Int} (h : r[x]? = some b) : (wayR k r (x + 1)).set x (b.1 + (unRow k (r.drop (x + 1))).2.tmod (rgW b)) = wayR k r x := by
  have hx := (List.getElem?_eq_some_iff.1 h).1
  unfold wayR
  rw [drop_getM h, ych h, List.map_append, List.append_assoc, List.set_append_right _ _ (by simp; omega)]
  simp only [List.length_map, List.length_take, Nat.min_eq_left (Nat.le_of_lt hx), Nat.sub_self, List.map_cons, List.map_nil, List.cons_append, List.nil_append, List.set_cons_zero, unRow]
theorem way_rest {k : Int} {r : List (Int × Int)} {x : Nat} {b : Int × Int} (h : r[x]? = some b) : (unRow k (r.drop x)).2 = (unRow k (r.drop (x + 1))).2.tdiv (rgW b) := by rw [drop_getM h]; rfl
theorem wayR_all (k : Int) (r : List (Int × Int)) : wayR k r r.length = r.map (·.1) := by simp [wayR, unRow]
theorem wayR_zero (k : Int) (r : List (Int × Int)) : wayR k r 0 = (unRow k r).1 := by simp [wayR]
theorem wayT_at {k : Int} {t : List (List (Int × Int))} {v : Nat} {r : List (Int × Int)} (h : t[v]? = some r) : (wayT k t (v + 1))[v]? = some (r.map (·.1)) := by
  have hx := (List.getElem?_eq_some_iff.1 h).1
  unfold wayT lowC
  rw [List.getElem?_append_left (by simp; omega), List.getElem?_map, List.getElem?_take, if_pos (by omega), h]; rfl
theorem wayT_set {k : Int} {t : List (List (Int × Int))} {v : Nat} {r : List (Int × Int)} (h : t[v]? = some r) : (wayT k t (v + 1)).set v (unRow (unTab k (t.drop (v + 1))).2 r).1 = wayT k t v := by
  have hx := (List.getElem?_eq_some_iff.1 h).1
  unfold wayT lowC
  rw [drop_getM h, ych h, List.map_append, List.append_assoc, List.set_append_right _ _ (by simp; omega)]
  simp only [List.length_map, List.length_take, Nat.min_eq_left (Nat.le_of_lt hx), Nat.sub_self, List.map_cons, List.map_nil, List.cons_append, List.nil_append, List.set_cons_zero, unTab]
theorem wayT_all (k : Int) (t : List (List (Int × Int))) : wayT k t t.length = lowC t := by simp [wayT, unTab]
theorem wayT_zero (k : Int) (t : List (List (Int × Int))) : wayT k t 0 = (unTab k t).1 := by simp [wayT, lowC]
theorem wayT_len (k : Int) (t : List (List (Int × Int))) {v : Nat} : (wayT k t v).length = t.length := by
  simp [wayT, lowC, unTab_len]; omega
theorem matR_set (c : List (List Int)) (v : Nat) (row : List Int) : matR (c.set v row) = (matR c).set v (row.map i64) := by simp [matR, List.map_set]
theorem matR_get (c : List (List Int)) (v : Nat) : (matR c)[v]? = (c[v]?).map fun r => r.map i64 := by simp [matR]
theorem set_same {α : Type} {l : List α} {k : Nat} {x : α} (h : l[k]? = some x) : l.set k x = l := by
  apply List.ext_getElem?
  intro i
  rw [List.getElem?_set]
  split
  · rename_i e
    subst e
    split
    · exact h.symm
    · rename_i hlt; rw [List.getElem?_eq_none (by omega)]
  · rfl
theorem backEls_pe {val : List AV → AV} {rows : List (List AV)} (hp : ∀ row ∈ rows, ybl (val row) = true) : ∀ el ∈ yes val rows, el.length = 2 ∧ ybl.pureL el = true := by
  intro el hel
  obtain ⟨k, hk⟩ := List.getElem?_of_mem hel
  obtain ⟨_, row, hrow, rfl⟩ := backEls_get hk
  exact ⟨rfl, by simp [ybl.pureL, ybl, i64, hp row (List.mem_of_getElem? hrow)]⟩
def unrankM (p : ProgD) (g : GraphD) (k : Int) : List (List Int) × Int :=
  if ydl p g = 0 then if (countF (ybc p g)).2 = 0 then if 0 ≤ k ∧ k < (countF (ybc p g)).1 then ((unTab k (ybc p g)).1, 0) else ([], 2) else ([], (countF (ybc p g)).2) else ([], ydl p g)
theorem countF_bd (tbl : List (List (Int × Int))) : (countF tbl).1 ≤ 32768 := by
  have : ∀ (l : List (Int × Int)) (n m : Int), n ≤ 32768 → cntL n l = some m → m ≤ 32768 := by
    intro l
    induction l with
    | nil => intro n m hn h; simp only [cntL, Option.some.injEq] at h; omega
    | cons b l ih =>
      intro n m hn h
      simp only [cntL] at h
      split at h
      · cases h
      · exact ih _ m (by omega) h
  unfold countF
  cases h : cntL 1 tbl.flatten with
  | none => simp
  | some n => exact this _ 1 n (by omega) h
def uF (n : Nat) (k : Int) : List (Nat × Option LObj) := [(12, some (.cells [.ls 44 1 n])), (5, some (.cells [i64 k]))]
def uG (n : Nat) (v : Int) (k : Int) : List (Nat × Option LObj) := [(13, some (.cells [i64 v])), (12, some (.cells [.ls 44 1 n])), (5, some (.cells [i64 k]))]
theorem munrank_con (p : ProgD) (g : GraphD) (k : Int) (hf : Fair p g) : Con Tryz.prog 18 [encP p, encG g, i64 k] (pairC (unrankM p g k)) := by
  refine ybs Tryz.func18 rfl rfl Tryz.ntmps18 Tryz.results18 rfl rfl ?_
  (repeat (first | refine zI ?_ | refine zL ?_ | refine zC ?_ | refine yai ?_ | refine yaj ?_ | refine zR ?_ | refine zD ?_ | refine zK ?_ | refine zB ?_ | refine zA ?_ | refine zS ?_ | refine zU ?_ | refine zV ?_ | refine zF ?_ | with_reducible refine yac ?_ | with_reducible refine yag ?_ | refine yad ?_ | refine yae ?_ | refine yaf ?_ | refine zT ?_ | refine zE ?_ | refine zX ?_ | refine yar rfl rfl (fits_con p g hf) rfl rfl ?_))
  refine yaq rfl (fun h => ?_) (fun h => ?_)
  · (repeat (first | refine zI ?_ | refine zL ?_ | refine zC ?_ | refine yai ?_ | refine yaj ?_ | refine zR ?_ | refine zD ?_ | refine zK ?_ | refine zB ?_ | refine zA ?_ | refine zS ?_ | refine zU ?_ | refine zV ?_ | refine zF ?_ | with_reducible refine yac ?_ | with_reducible refine yag ?_ | refine yad ?_ | refine yae ?_ | refine yaf ?_ | refine zT ?_ | refine zE ?_ | refine zX ?_))
    refine yas ?_; refine ⟨_, rfl, ?_⟩
    have : ydl p g ≠ 0 := by simpa using h
    rw [unrankM, if_neg this]
    exact Frz.tup2 Frz.nil Frz.pure
  have h0 : ydl p g = 0 := by simpa using h
  have ht := table_in hf h0
  (repeat (first | refine zI ?_ | refine zL ?_ | refine zC ?_ | refine yai ?_ | refine yaj ?_ | refine zR ?_ | refine zD ?_ | refine zK ?_ | refine zB ?_ | refine zA ?_ | refine zS ?_ | refine zU ?_ | refine zV ?_ | refine zF ?_ | with_reducible refine yac ?_ | with_reducible refine yag ?_ | refine yad ?_ | refine yae ?_ | refine yaf ?_ | refine zT ?_ | refine zE ?_ | refine zX ?_ | refine yar rfl rfl (table_con p g hf h0) rfl rfl ?_ | refine yar rfl rfl (count_con (ybc p g) ht) rfl rfl ?_))
  refine yaq rfl (fun h1 => ?_) (fun h1 => ?_)
  · (repeat (first | refine zI ?_ | refine zL ?_ | refine zC ?_ | refine yai ?_ | refine yaj ?_ | refine zR ?_ | refine zD ?_ | refine zK ?_ | refine zB ?_ | refine zA ?_ | refine zS ?_ | refine zU ?_ | refine zV ?_ | refine zF ?_ | with_reducible refine yac ?_ | with_reducible refine yag ?_ | refine yad ?_ | refine yae ?_ | refine yaf ?_ | refine zT ?_ | refine zE ?_ | refine zX ?_))
    refine yas ?_; refine ⟨_, rfl, ?_⟩
    have : (countF (ybc p g)).2 ≠ 0 := by simpa using h1
    rw [unrankM, if_pos h0, if_neg this]
    exact Frz.tup2 Frz.nil Frz.pure
  have h1' : (countF (ybc p g)).2 = 0 := by simpa using h1
  have hkb := countF_bd (ybc p g)
  (repeat (first | refine zI ?_ | refine zL ?_ | refine zC ?_ | refine yai ?_ | refine yaj ?_ | refine zR ?_ | refine zD ?_ | refine zK ?_ | refine zB ?_ | refine zA ?_ | refine zS ?_ | refine zU ?_ | refine zV ?_ | refine zF ?_ | with_reducible refine yac ?_ | with_reducible refine yag ?_ | refine yad ?_ | refine yae ?_ | refine yaf ?_ | refine zT ?_ | refine zE ?_ | refine zX ?_))
  by_cases hk : 0 ≤ k ∧ k < (countF (ybc p g)).1
  · refine ybm 37 rfl (fun h2 => ?_) (fun h2 => ?_)
    · exfalso; simp at h2; omega
    (repeat (first | refine zI ?_ | refine zL ?_ | refine zC ?_ | refine yai ?_ | refine yaj ?_ | refine zR ?_ | refine zD ?_ | refine zK ?_ | refine zB ?_ | refine zA ?_ | refine zS ?_ | refine zU ?_ | refine zV ?_ | refine zF ?_ | with_reducible refine yac ?_ | with_reducible refine yag ?_ | refine yad ?_ | refine yae ?_ | refine yaf ?_ | refine zT ?_ | refine zE ?_ | refine zX ?_))
    refine yaq rfl (fun h3 => ?_) (fun h3 => ?_)
    · exfalso; simp at h3; omega
    (repeat (first | with_reducible refine yag ?_ | with_reducible refine yac ?_ | refine yae ?_))
    refine A_freezeBox 9 rfl rfl rfl rfl rfl ?_
    refine A_sub (t' := [(9, .dp [yfj (ybc p g)] 0), (5, .lp 5 0)]) (h' := [(5, some (.cells [i64 k]))]) ?_ (by (repeat (first | exact yan | refine yak rfl ?_))) (by first | exact yab | exact yaa rfl yab | exact yaa rfl (yaa rfl yab) | exact yaa rfl (yaa rfl (yaa rfl yab)) | exact yaa rfl (yaa rfl (yaa rfl (yaa rfl yab))))
    generalize htb : ybc p g = tbl at ht hk hkb h1'
    have hlen : (lowC tbl).length = tbl.length := by simp [lowC]
    (repeat (first | refine zI ?_ | refine zL ?_ | refine zC ?_ | refine yai ?_ | refine yaj ?_ | refine zR ?_ | refine zD ?_ | refine zK ?_ | refine zB ?_ | refine zA ?_ | refine zS ?_ | refine zU ?_ | refine zV ?_ | refine zF ?_ | with_reducible refine yac ?_ | with_reducible refine yag ?_ | refine yad ?_ | refine yae ?_ | refine yaf ?_ | refine zT ?_ | refine zE ?_ | refine zX ?_ | refine L_callO (build_con tbl 37 [.dp [yfj tbl] 0] (lowV tbl) rfl rfl ht.1 (fun r hr => (ht.2 r hr).1) (fun i j r hr hj => unrank1_con tbl i j r hr hj)) rfl rfl rfl rfl rfl rfl rfl rfl rfl rfl rfl rfl rfl ?_ | refine yar rfl rfl (backO_con _) rfl rfl ?_ | refine L_alloc tok rfl rfl rfl (freshM (f := [(5, some (.cells [i64 k]))]) rfl rfl rfl rfl) rfl rfl rfl ?_))
    refine A_range (els := yes (fun row => row.headD .any) (tbl.map fun r => [.sl 2 (r.map encRg)])) rfl (backO_iter _ _ (fun row hrow => by obtain ⟨r, _, rfl⟩ := List.mem_map.1 hrow; rfl)) (backEls_pe fun row hrow => by obtain ⟨r, _, rfl⟩ := List.mem_map.1 hrow; rfl) rfl [(9, .dp [yfj tbl] 0), (12, .lp 12 0), (5, .lp 5 0)] (by (repeat (first | exact yan | refine yak rfl ?_))) rfl (fun j => uF tbl.length (unTab k (tbl.drop (tbl.length - j))).2 ++ yei 44 1 (matR (wayT k tbl (tbl.length - j))) []) ?_ ?_ ?_
    · rw [Nat.sub_zero, wayT_all, List.drop_length, ← built_low]
      exact hsM (f := [(12, some (.cells [.ls 44 1 tbl.length])), (12, _), (5, some (.cells [i64 k]))]) (f' := uF tbl.length k) (by first | exact yab | exact yaa rfl yab | exact yaa rfl (yaa rfl yab) | exact yaa rfl (yaa rfl (yaa rfl yab)) | exact yaa rfl (yaa rfl (yaa rfl (yaa rfl yab)))) rfl rfl rfl
    · intro j el hel
      obtain ⟨hj, row, hrow, rfl⟩ := backEls_get hel
      simp only [List.length_map] at hj hrow ⊢
      obtain ⟨v, hv⟩ : ∃ v, v = tbl.length - 1 - j := ⟨_, rfl⟩
      rw [← hv] at hrow
      obtain ⟨r, hr⟩ := yeh (show v < tbl.length by omega)
      simp only [List.getElem?_map, hr, Option.map_some, Option.some.injEq] at hrow
      subst hrow
      rw [show ((tbl.length : Int) - 1 - (j : Int)) = (v : Int) by omega, show tbl.length - j = v + 1 by omega]
      have hrm := List.mem_of_getElem? hr
      (repeat (first | refine zI ?_ | refine zL ?_ | refine zC ?_ | refine yai ?_ | refine yaj ?_ | refine zR ?_ | refine zD ?_ | refine zK ?_ | refine zB ?_ | refine zA ?_ | refine zS ?_ | refine zU ?_ | refine zV ?_ | refine zF ?_ | with_reducible refine yac ?_ | with_reducible refine yag ?_ | refine yad ?_ | refine yae ?_ | refine yaf ?_ | refine zT ?_ | refine zE ?_ | refine zX ?_ | refine L_alloc tok rfl rfl rfl (freshM (f := uF tbl.length (unTab k (tbl.drop (v + 1))).2) rfl rfl rfl rfl) rfl rfl rfl ?_))
      refine ⟨rfl, ?_⟩
      (repeat (first | refine zI ?_ | refine zL ?_ | refine zC ?_ | refine yai ?_ | refine yaj ?_ | refine zR ?_ | refine zD ?_ | refine zK ?_ | refine zB ?_ | refine zA ?_ | refine zS ?_ | refine zU ?_ | refine zV ?_ | refine zF ?_ | with_reducible refine yac ?_ | with_reducible refine yag ?_ | refine yad ?_ | refine yae ?_ | refine yaf ?_ | refine zT ?_ | refine zE ?_ | refine zX ?_ | refine yar rfl rfl (backI_con _) rfl rfl ?_))
      obtain ⟨K, hK⟩ : ∃ K, K = (unTab k (tbl.drop (v + 1))).2 := ⟨_, rfl⟩
      have hKb : 0 ≤ K ∧ K ≤ k := by rw [hK]; exact unTab_bd hk.1 _ fun r hr => (ht.2 r (List.mem_of_mem_drop hr)).2
      have hrest : (unRow K r).2 = (unTab k (tbl.drop v)).2 := by rw [drop_getM hr, hK]; rfl
      have hset := wayT_set (k := k) hr
      rw [← hK] at hset ⊢
      obtain ⟨hr1, hrq⟩ := ht.2 r hrm
      have hAl : v < (wayT k tbl (v + 1)).length := by rw [wayT_len]; omega
      obtain ⟨A, hA⟩ : ∃ A, A = wayT k tbl (v + 1) := ⟨_, rfl⟩
      have hAv := wayT_at (k := k) hr
      rw [← hA] at hset hAv hAl ⊢
      have hAn : A.length = tbl.length := by rw [hA, wayT_len]
      refine A_range (els := yes AV.agg (r.map encRg)) rfl (backI_iter _ _ (fun row hrow => by obtain ⟨b, _, rfl⟩ := List.mem_map.1 hrow; rfl)) (backEls_pe fun row hrow => by obtain ⟨b, _, rfl⟩ := List.mem_map.1 hrow; rfl) rfl [(13, .lp 13 0), (12, .lp 12 0), (5, .lp 5 0), (1000009, .dp [yfj tbl] 0), (1000012, .lp 12 0), (1000005, .lp 5 0)] (by (repeat (first | exact yan | refine yak rfl ?_))) rfl (fun i => uG tbl.length v (unRow K (r.drop (r.length - i))).2 ++ yei 44 1 (matR (A.set v (wayR K r (r.length - i)))) []) ?_ ?_ ?_
      · rw [Nat.sub_zero, wayR_all, List.drop_length, set_same hAv]
        exact hsM (f := [(13, some (.cells [i64 v])), (13, _), (12, some (.cells [.ls 44 1 tbl.length])), (5, some (.cells [i64 K]))]) (f' := uG tbl.length v K) (by first | exact yab | exact yaa rfl yab | exact yaa rfl (yaa rfl yab) | exact yaa rfl (yaa rfl (yaa rfl yab)) | exact yaa rfl (yaa rfl (yaa rfl (yaa rfl yab)))) rfl rfl rfl
      · intro i el hel
        obtain ⟨hi, row, hrow, rfl⟩ := backEls_get hel
        simp only [List.length_map] at hi hrow ⊢
        obtain ⟨x, hx⟩ : ∃ x, x = r.length - 1 - i := ⟨_, rfl⟩
        rw [← hx] at hrow
        obtain ⟨b, hb⟩ := yeh (show x < r.length by omega)
        simp only [List.getElem?_map, hb, Option.map_some, Option.some.injEq] at hrow
        subst hrow
        rw [show ((r.length : Int) - 1 - (i : Int)) = (x : Int) by omega, show r.length - i = x + 1 by omega]
        have hxi : r.length - (i + 1) = x := by omega
        obtain ⟨b1, b2, b3⟩ := hrq b (List.mem_of_getElem? hb)
        obtain ⟨L, hL⟩ : ∃ L, L = (unRow K (r.drop (x + 1))).2 := ⟨_, rfl⟩
        have hLb : 0 ≤ L ∧ L ≤ K := by rw [hL]; exact unRow_bd hKb.1 _ fun q hq => hrq q (List.mem_of_mem_drop hq)
        have hLm := tmod_bd (w := rgW b) hLb.1 (by unfold rgW; omega)
        have hLd := tdiv_bd (w := rgW b) hLb.1 (by unfold rgW; omega)
        simp only [rgW] at hLm hLd
        have hstep := wayR_set (k := K) hb
        have hnext := way_rest (k := K) hb
        rw [← hL] at hstep hnext ⊢
        have hpart : (matR (A.set v (wayR K r (x + 1))))[v]? = some ((wayR K r (x + 1)).map i64) := by rw [matR_get, List.getElem?_set_self hAl]; rfl
        have hpl : ((wayR K r (x + 1)).map i64).length = r.length := by rw [List.length_map, wayR_len]
        have hat : ((wayR K r (x + 1)).map i64)[x]? = some (i64 b.1) := by rw [List.getElem?_map, wayR_at hb]; rfl
        (repeat (first | refine zI ?_ | refine zL ?_ | refine zC ?_ | refine yai ?_ | refine yaj ?_ | refine zR ?_ | refine zD ?_ | refine zK ?_ | refine zB ?_ | refine zA ?_ | refine zS ?_ | refine zU ?_ | refine zV ?_ | refine zF ?_ | with_reducible refine yac ?_ | with_reducible refine yag ?_ | refine yad ?_ | refine yae ?_ | refine yaf ?_ | refine zT ?_ | refine zE ?_ | refine zX ?_ | refine L_alloc tok rfl rfl rfl (freshM (f := uG tbl.length v L) rfl rfl rfl rfl) rfl rfl rfl ?_))
        refine ⟨rfl, ?_⟩
        refine A_subS (t' := [(16, .lp 16 0), (15, i64 x), (13, .lp 13 0), (12, .lp 12 0), (5, .lp 5 0), (1000013, .lp 13 0), (1000012, .lp 12 0), (1000005, .lp 5 0), (2000009, .dp [yfj tbl] 0), (2000012, .lp 12 0), (2000005, .lp 5 0)]) (h' := ((16, some (.cells (encRg b))) :: uG tbl.length v L) ++ yei 44 1 (matR (A.set v (wayR K r (x + 1)))) []) ?_ (by (repeat (first | exact yan | refine yak rfl ?_))) (hsM (f := (16, some (.cells (encRg b))) :: (16, _) :: uG tbl.length v L) (f' := (16, some (.cells (encRg b))) :: uG tbl.length v L) (by first | exact yab | exact yaa rfl yab | exact yaa rfl (yaa rfl yab) | exact yaa rfl (yaa rfl (yaa rfl yab)) | exact yaa rfl (yaa rfl (yaa rfl (yaa rfl yab)))) rfl rfl rfl)
        have hcO : ycn (yap (((16, some (LObj.cells (encRg b))) :: uG tbl.length v L) ++ yei 44 1 (matR (A.set v (wayR K r (x + 1)))) []) 44) = some (matC 44 1 0 (matR (A.set v (wayR K r (x + 1)))) ++ []) := by rw [ybf (f := (16, some (LObj.cells (encRg b))) :: uG tbl.length v L) rfl]; exact cellsO_matO _
        have hcell : (matC 44 1 0 (matR (A.set v (wayR K r (x + 1)))) ++ [])[(v : Int).toNat * 1]? = some (.ls (fam 44 v) 1 r.length) := by
          rw [show ((v : Int).toNat * 1) = v by simp, List.append_nil, matC_get, hpart]
          simp only [Option.map_some, hpl, Nat.div_one, Nat.zero_add]
        have hrow : yap (((16, some (LObj.cells (encRg b))) :: uG tbl.length v L) ++ yei 44 1 (matR (A.set v (wayR K r (x + 1)))) []) (fam 44 v) = some (.vec ((wayR K r (x + 1)).map i64)) := yaw (f := (16, some (LObj.cells (encRg b))) :: uG tbl.length v L) rfl (by omega) hpart
        (repeat (first | refine zI ?_ | refine zL ?_ | refine zC ?_ | refine yai ?_ | refine yaj ?_ | refine zR ?_ | refine zD ?_ | refine zK ?_ | refine zB ?_ | refine zA ?_ | refine zS ?_ | refine zU ?_ | refine zV ?_ | refine zF ?_ | with_reducible refine yac ?_ | with_reducible refine yag ?_ | refine yad ?_ | refine yae ?_ | refine yaf ?_ | refine zT ?_ | refine zE ?_ | refine zX ?_ | refine ybb tok rfl rfl (ybf (f := (16, some (LObj.cells (encRg b))) :: uG tbl.length v L) rfl) rfl (by omega) (by omega) rfl rfl ?_ | refine ycg (r := .ls (fam 44 v) 1 r.length) tok rfl rfl rfl hcO hcell rfl rfl ?_ | refine ybb tok rfl rfl hrow rfl (by omega) (by omega) rfl rfl ?_ | refine ycg (r := i64 b.1) (xs := (wayR K r (x + 1)).map i64) tok rfl rfl rfl (by rw [hrow]; rfl) (by rw [show ((x : Int).toNat * 1) = x by simp]; exact hat) rfl rfl ?_ | refine L_rem rfl rfl (by omega) rfl rfl ?_))
        refine L_storeI (h' := ((16, some (LObj.cells (encRg b))) :: uG tbl.length v L) ++ yei 44 1 (matR (A.set v (wayR K r x))) []) tok rfl rfl rfl rfl rfl hrow (by rw [hpl]; simp; omega) rfl ?_ rfl rfl ?_
        · have e : ((wayR K r (x + 1)).map i64).set x (.v (.int .i64 (b.1 + L.tmod (b.2 - b.1 + 1)))) = (wayR K r x).map i64 := by
            rw [← hstep, List.map_set]; rfl
          rw [show ((x : Int).toNat * 1) = x by simp, e]
          refine (mat_upd (f := (16, some (LObj.cells (encRg b))) :: uG tbl.length v L) rfl (by omega) hpart (by rw [hpl, List.length_map, wayR_len])).trans ?_
          rw [matR_set, matR_set, List.set_set]
        (repeat (first | refine zI ?_ | refine zL ?_ | refine zC ?_ | refine yai ?_ | refine yaj ?_ | refine zR ?_ | refine zD ?_ | refine zK ?_ | refine zB ?_ | refine zA ?_ | refine zS ?_ | refine zU ?_ | refine zV ?_ | refine zF ?_ | with_reducible refine yac ?_ | with_reducible refine yag ?_ | refine yad ?_ | refine yae ?_ | refine yaf ?_ | refine zT ?_ | refine zE ?_ | refine zX ?_ | refine L_quo rfl rfl (by omega) (by omega) (by omega) rfl rfl ?_))
        refine rndF (by (repeat (first | exact yan | refine yak rfl ?_))) ?_
        rw [hxi, hnext]
        exact hsM (f := (5, some (.cells [i64 (L.tdiv (rgW b))])) :: (16, some (LObj.cells (encRg b))) :: uG tbl.length v L) (f' := uG tbl.length v (L.tdiv (rgW b))) (by first | exact yab | exact yaa rfl yab | exact yaa rfl (yaa rfl yab) | exact yaa rfl (yaa rfl (yaa rfl yab)) | exact yaa rfl (yaa rfl (yaa rfl (yaa rfl yab)))) rfl rfl rfl
      · (repeat (first | with_reducible refine yag ?_ | with_reducible refine yac ?_ | refine yae ?_))
        refine rndF (by (repeat (first | exact yan | refine yak rfl ?_))) ?_
        rw [backEls_len, List.length_map, Nat.sub_self, wayR_zero, hset, List.drop_zero, hrest, show tbl.length - (j + 1) = v by omega]
        exact hsM (f := uG tbl.length v (unTab k (tbl.drop v)).2) (f' := uF tbl.length (unTab k (tbl.drop v)).2) (by first | exact yab | exact yaa rfl yab | exact yaa rfl (yaa rfl yab) | exact yaa rfl (yaa rfl (yaa rfl yab)) | exact yaa rfl (yaa rfl (yaa rfl (yaa rfl yab)))) rfl rfl rfl
    · (repeat (first | with_reducible refine yag ?_ | with_reducible refine yac ?_ | refine yae ?_))
      rw [backEls_len, List.length_map, Nat.sub_self, wayT_zero, List.drop_zero]
      (repeat (first | refine zI ?_ | refine zL ?_ | refine zC ?_ | refine yai ?_ | refine yaj ?_ | refine zR ?_ | refine zD ?_ | refine zK ?_ | refine zB ?_ | refine zA ?_ | refine zS ?_ | refine zU ?_ | refine zV ?_ | refine zF ?_ | with_reducible refine yac ?_ | with_reducible refine yag ?_ | refine yad ?_ | refine yae ?_ | refine yaf ?_ | refine zT ?_ | refine zE ?_ | refine zX ?_))
      refine yas ?_; refine ⟨_, rfl, ?_⟩
      rw [unrankM, htb, if_pos h0, if_pos h1', if_pos hk]
      refine Frz.tup2 ?_ Frz.pure
      exact frz_cfg (f := uF tbl.length (unTab k tbl).2) (M := 44) (n := tbl.length) rfl rfl rfl (by rw [unTab_len]) rfl
  · have hend : pairC (unrankM p g k) = .tup [encC [], i64 2] := by rw [unrankM, if_pos h0, if_pos h1', if_neg hk]; rfl
    refine ybm 37 rfl (fun h2 => ?_) (fun h2 => ?_)
    · (repeat (first | refine zI ?_ | refine zL ?_ | refine zC ?_ | refine yai ?_ | refine yaj ?_ | refine zR ?_ | refine zD ?_ | refine zK ?_ | refine zB ?_ | refine zA ?_ | refine zS ?_ | refine zU ?_ | refine zV ?_ | refine zF ?_ | with_reducible refine yac ?_ | with_reducible refine yag ?_ | refine yad ?_ | refine yae ?_ | refine yaf ?_ | refine zT ?_ | refine zE ?_ | refine zX ?_))
      refine yas ?_; refine ⟨_, rfl, ?_⟩
      rw [hend]
      exact Frz.tup2 Frz.nil Frz.pure
    · (repeat (first | refine zI ?_ | refine zL ?_ | refine zC ?_ | refine yai ?_ | refine yaj ?_ | refine zR ?_ | refine zD ?_ | refine zK ?_ | refine zB ?_ | refine zA ?_ | refine zS ?_ | refine zU ?_ | refine zV ?_ | refine zF ?_ | with_reducible refine yac ?_ | with_reducible refine yag ?_ | refine yad ?_ | refine yae ?_ | refine yaf ?_ | refine zT ?_ | refine zE ?_ | refine zX ?_))
      refine yaq rfl (fun h3 => ?_) (fun h3 => ?_)
      · (repeat (first | refine zI ?_ | refine zL ?_ | refine zC ?_ | refine yai ?_ | refine yaj ?_ | refine zR ?_ | refine zD ?_ | refine zK ?_ | refine zB ?_ | refine zA ?_ | refine zS ?_ | refine zU ?_ | refine zV ?_ | refine zF ?_ | with_reducible refine yac ?_ | with_reducible refine yag ?_ | refine yad ?_ | refine yae ?_ | refine yaf ?_ | refine zT ?_ | refine zE ?_ | refine zX ?_))
        refine yas ?_; refine ⟨_, rfl, ?_⟩
        rw [hend]
        exact Frz.tup2 Frz.nil Frz.pure
      · exfalso; simp at h2 h3; omega
end Go.Proofs.YtmlkdoimkdbdpaaGreatDoor
set_option linter.unusedVariables false
set_option maxRecDepth 100000
set_option maxHeartbeats 8000000
namespace Go.Proofs.YtmlkdoimkdbdpaaGreatDoor
open Go.RowKit
theorem state_get {r : List (Int × Int)} {s : List Int} (h : yef r s = true) : s.length = r.length ∧ ∀ (x : Nat) (b : Int × Int), r[x]? = some b → ∃ z, s[x]? = some z ∧ b.1 ≤ z ∧ z ≤ b.2 := by
  simp only [yef, Bool.and_eq_true, beq_iff_eq] at h
  refine ⟨h.1, fun x b hb => ?_⟩
  have hx := (List.getElem?_eq_some_iff.1 hb).1
  obtain ⟨z, hz⟩ := yeh (show x < s.length by omega)
  have := List.all_eq_true.1 h.2 _ (List.mem_of_getElem? (zip_get hb hz))
  simp only [inRg, Bool.and_eq_true, decide_eq_true_eq] at this
  exact ⟨z, hz, this⟩
theorem cfg_get {tbl : List (List (Int × Int))} {c : List (List Int)} (h : yfi tbl c = true) : c.length = tbl.length ∧ ∀ (v : Nat) (r : List (Int × Int)), tbl[v]? = some r → ∃ s, c[v]? = some s ∧ yef r s = true := by
  simp only [yfi, Bool.and_eq_true, beq_iff_eq] at h
  refine ⟨h.1, fun v r hr => ?_⟩
  have hx := (List.getElem?_eq_some_iff.1 hr).1
  obtain ⟨s, hs⟩ := yeh (show v < c.length by omega)
  exact ⟨s, hs, List.all_eq_true.1 h.2 _ (List.mem_of_getElem? (zip_get hr hs))⟩
theorem check_zero {p : ProgD} {g : GraphD} {c : List (List Int)} : yet p g c = 0 ↔ ydl p g = 0 ∧ yfi (ybc p g) c = true := by
  unfold yet
  by_cases h : ydl p g = 0
  · by_cases h2 : yfi (ybc p g) c = true
    · simp [h, h2]
    · simp [h, h2]
  · simp [h]
theorem table_row {p : ProgD} {g : GraphD} {v : Nat} {r : List (Int × Int)} (h : (ybc p g)[v]? = some r) : r.length = p.vars.length := by
  simp only [ybc, List.getElem?_map] at h
  cases hg : g.ports[v]? with
  | none => rw [hg] at h; cases h
  | some ls => rw [hg] at h; cases h; simp
end Go.Proofs.YtmlkdoimkdbdpaaGreatDoor
set_option linter.unusedVariables false
set_option maxRecDepth 100000
set_option maxHeartbeats 8000000
namespace Go.Proofs.YtmlkdoimkdbdpaaGreatDoor
open Go.RowKit
theorem list_ne_at {α : Type} {a b : List α} {k : Nat} {x y : α} (h1 : a[k]? = some x) (h2 : b[k]? = some y) (hne : x ≠ y) : a ≠ b := by
  rintro rfl; rw [h1] at h2; cases h2; exact hne rfl
theorem list_eq_take {α : Type} {a b : List α} {k : Nat} (hl : a.length = b.length) (hk : k = a.length) (h : a.take k = b.take k) : a = b := by
  subst hk
  rwa [List.take_length, hl, List.take_length] at h
theorem sameInts_con (a b : List Int) (ha : a.length ≤ 1000000) : Con Tryz.prog 31 [ybk a, ybk b] (yfp (a == b)) := by
  refine ybs Tryz.func31 rfl rfl Tryz.ntmps31 Tryz.results31 rfl rfl ?_
  (repeat (first | refine zI ?_ | refine zL ?_ | refine zC ?_ | refine yai ?_ | refine yaj ?_ | refine zR ?_ | refine zD ?_ | refine zK ?_ | refine zB ?_ | refine zA ?_ | refine zS ?_ | refine zU ?_ | refine zV ?_ | refine zF ?_ | with_reducible refine yac ?_ | with_reducible refine yag ?_ | refine yad ?_ | refine yae ?_ | refine yaf ?_ | refine zT ?_ | refine zE ?_ | refine zX ?_))
  refine yaq rfl (fun h => ?_) (fun h => ?_)
  · (repeat (first | refine zI ?_ | refine zL ?_ | refine zC ?_ | refine yai ?_ | refine yaj ?_ | refine zR ?_ | refine zD ?_ | refine zK ?_ | refine zB ?_ | refine zA ?_ | refine zS ?_ | refine zU ?_ | refine zV ?_ | refine zF ?_ | with_reducible refine yac ?_ | with_reducible refine yag ?_ | refine yad ?_ | refine yae ?_ | refine yaf ?_ | refine zT ?_ | refine zE ?_ | refine zX ?_))
    refine yas ?_; refine ⟨_, rfl, ?_⟩
    have : a ≠ b := by rintro rfl; simp at h
    exact yau (by simp [this])
  have hl : a.length = b.length := by simp at h; omega
  (repeat (first | refine zI ?_ | refine zL ?_ | refine zC ?_ | refine yai ?_ | refine yaj ?_ | refine zR ?_ | refine zD ?_ | refine zK ?_ | refine zB ?_ | refine zA ?_ | refine zS ?_ | refine zU ?_ | refine zV ?_ | refine zF ?_ | with_reducible refine yac ?_ | with_reducible refine yag ?_ | refine yad ?_ | refine yae ?_ | refine yaf ?_ | refine zT ?_ | refine zE ?_ | refine zX ?_))
  refine ydp (α := Nat) (fun k => [(5, i64 k), (0, ybk a), (1, ybk b)]) (fun _ => []) (fun k => a.length - k) (fun k => k ≤ a.length ∧ a.take k = b.take k) 0 ⟨by omega, rfl⟩ (by (repeat (first | exact yan | refine yak rfl ?_))) (by first | exact yab | exact yaa rfl yab | exact yaa rfl (yaa rfl yab) | exact yaa rfl (yaa rfl (yaa rfl yab)) | exact yaa rfl (yaa rfl (yaa rfl (yaa rfl yab)))) ?_
  rintro k ⟨hk, hok⟩
  (repeat (first | refine zI ?_ | refine zL ?_ | refine zC ?_ | refine yai ?_ | refine yaj ?_ | refine zR ?_ | refine zD ?_ | refine zK ?_ | refine zB ?_ | refine zA ?_ | refine zS ?_ | refine zU ?_ | refine zV ?_ | refine zF ?_ | with_reducible refine yac ?_ | with_reducible refine yag ?_ | refine yad ?_ | refine yae ?_ | refine yaf ?_ | refine zT ?_ | refine zE ?_ | refine zX ?_))
  refine yaq rfl (fun h1 => ?_) (fun h1 => ?_)
  · simp at h1
    obtain ⟨x, hx⟩ := yeh (show k < a.length by omega)
    obtain ⟨y, hy⟩ := yeh (show k < b.length by omega)
    (repeat (first | refine zI ?_ | refine zL ?_ | refine zC ?_ | refine yai ?_ | refine yaj ?_ | refine zR ?_ | refine zD ?_ | refine zK ?_ | refine zB ?_ | refine zA ?_ | refine zS ?_ | refine zU ?_ | refine zV ?_ | refine zF ?_ | with_reducible refine yac ?_ | with_reducible refine yag ?_ | refine yad ?_ | refine yae ?_ | refine yaf ?_ | refine zT ?_ | refine zE ?_ | refine zX ?_))
    refine yaq rfl (fun h2 => ?_) (fun h2 => ?_)
    · (repeat (first | refine zI ?_ | refine zL ?_ | refine zC ?_ | refine yai ?_ | refine yaj ?_ | refine zR ?_ | refine zD ?_ | refine zK ?_ | refine zB ?_ | refine zA ?_ | refine zS ?_ | refine zU ?_ | refine zV ?_ | refine zF ?_ | with_reducible refine yac ?_ | with_reducible refine yag ?_ | refine yad ?_ | refine yae ?_ | refine yaf ?_ | refine zT ?_ | refine zE ?_ | refine zX ?_))
      refine yas ?_; refine ⟨_, rfl, ?_⟩
      simp at h2
      exact yau (by simp [list_ne_at hx hy h2])
    · (repeat (first | refine zI ?_ | refine zL ?_ | refine zC ?_ | refine yai ?_ | refine yaj ?_ | refine zR ?_ | refine zD ?_ | refine zK ?_ | refine zB ?_ | refine zA ?_ | refine zS ?_ | refine zU ?_ | refine zV ?_ | refine zF ?_ | with_reducible refine yac ?_ | with_reducible refine yag ?_ | refine yad ?_ | refine yae ?_ | refine yaf ?_ | refine zT ?_ | refine zE ?_ | refine zX ?_))
      simp at h2
      exact rnd (k + 1) ⟨by omega, by rw [ych hx, ych hy, hok, h2]⟩ (by omega) (by (repeat (first | exact yan | refine yak rfl ?_))) (by first | exact yab | exact yaa rfl yab | exact yaa rfl (yaa rfl yab) | exact yaa rfl (yaa rfl (yaa rfl yab)) | exact yaa rfl (yaa rfl (yaa rfl (yaa rfl yab))))
  · simp at h1
    (repeat (first | refine zI ?_ | refine zL ?_ | refine zC ?_ | refine yai ?_ | refine yaj ?_ | refine zR ?_ | refine zD ?_ | refine zK ?_ | refine zB ?_ | refine zA ?_ | refine zS ?_ | refine zU ?_ | refine zV ?_ | refine zF ?_ | with_reducible refine yac ?_ | with_reducible refine yag ?_ | refine yad ?_ | refine yae ?_ | refine yaf ?_ | refine zT ?_ | refine zE ?_ | refine zX ?_))
    refine yas ?_; refine ⟨_, rfl, ?_⟩
    exact yau (by simp [list_eq_take hl (show k = a.length by omega) hok])
theorem same_con10 (c d : List (List Int)) (hc : CfgIn c) : Con Tryz.prog 11 [encC c, encC d] (yfp (c == d)) := by
  have hcl := hc.1
  refine ybs Tryz.func11 rfl rfl Tryz.ntmps11 Tryz.results11 rfl rfl ?_
  (repeat (first | refine zI ?_ | refine zL ?_ | refine zC ?_ | refine yai ?_ | refine yaj ?_ | refine zR ?_ | refine zD ?_ | refine zK ?_ | refine zB ?_ | refine zA ?_ | refine zS ?_ | refine zU ?_ | refine zV ?_ | refine zF ?_ | with_reducible refine yac ?_ | with_reducible refine yag ?_ | refine yad ?_ | refine yae ?_ | refine yaf ?_ | refine zT ?_ | refine zE ?_ | refine zX ?_))
  refine yaq rfl (fun h => ?_) (fun h => ?_)
  · (repeat (first | refine zI ?_ | refine zL ?_ | refine zC ?_ | refine yai ?_ | refine yaj ?_ | refine zR ?_ | refine zD ?_ | refine zK ?_ | refine zB ?_ | refine zA ?_ | refine zS ?_ | refine zU ?_ | refine zV ?_ | refine zF ?_ | with_reducible refine yac ?_ | with_reducible refine yag ?_ | refine yad ?_ | refine yae ?_ | refine yaf ?_ | refine zT ?_ | refine zE ?_ | refine zX ?_))
    refine yas ?_; refine ⟨_, rfl, ?_⟩
    have : c ≠ d := by rintro rfl; simp at h
    exact yau (by simp [this])
  have hl : c.length = d.length := by simp at h; omega
  (repeat (first | refine zI ?_ | refine zL ?_ | refine zC ?_ | refine yai ?_ | refine yaj ?_ | refine zR ?_ | refine zD ?_ | refine zK ?_ | refine zB ?_ | refine zA ?_ | refine zS ?_ | refine zU ?_ | refine zV ?_ | refine zF ?_ | with_reducible refine yac ?_ | with_reducible refine yag ?_ | refine yad ?_ | refine yae ?_ | refine yaf ?_ | refine zT ?_ | refine zE ?_ | refine zX ?_))
  refine ydp (α := Nat) (fun k => [(5, i64 k), (0, encC c), (1, encC d)]) (fun _ => []) (fun k => c.length - k) (fun k => k ≤ c.length ∧ c.take k = d.take k) 0 ⟨by omega, rfl⟩ (by (repeat (first | exact yan | refine yak rfl ?_))) (by first | exact yab | exact yaa rfl yab | exact yaa rfl (yaa rfl yab) | exact yaa rfl (yaa rfl (yaa rfl yab)) | exact yaa rfl (yaa rfl (yaa rfl (yaa rfl yab)))) ?_
  rintro k ⟨hk, hok⟩
  (repeat (first | refine zI ?_ | refine zL ?_ | refine zC ?_ | refine yai ?_ | refine yaj ?_ | refine zR ?_ | refine zD ?_ | refine zK ?_ | refine zB ?_ | refine zA ?_ | refine zS ?_ | refine zU ?_ | refine zV ?_ | refine zF ?_ | with_reducible refine yac ?_ | with_reducible refine yag ?_ | refine yad ?_ | refine yae ?_ | refine yaf ?_ | refine zT ?_ | refine zE ?_ | refine zX ?_))
  refine yaq rfl (fun h1 => ?_) (fun h1 => ?_)
  · simp at h1
    obtain ⟨x, hx⟩ := yeh (show k < c.length by omega)
    obtain ⟨y, hy⟩ := yeh (show k < d.length by omega)
    (repeat (first | refine zI ?_ | refine zL ?_ | refine zC ?_ | refine yai ?_ | refine yaj ?_ | refine zR ?_ | refine zD ?_ | refine zK ?_ | refine zB ?_ | refine zA ?_ | refine zS ?_ | refine zU ?_ | refine zV ?_ | refine zF ?_ | with_reducible refine yac ?_ | with_reducible refine yag ?_ | refine yad ?_ | refine yae ?_ | refine yaf ?_ | refine zT ?_ | refine zE ?_ | refine zX ?_ | refine yar rfl rfl (sameInts_con x y (hc.2 x (List.mem_of_getElem? hx))) rfl rfl ?_))
    refine yaq rfl (fun h2 => ?_) (fun h2 => ?_)
    · (repeat (first | refine zI ?_ | refine zL ?_ | refine zC ?_ | refine yai ?_ | refine yaj ?_ | refine zR ?_ | refine zD ?_ | refine zK ?_ | refine zB ?_ | refine zA ?_ | refine zS ?_ | refine zU ?_ | refine zV ?_ | refine zF ?_ | with_reducible refine yac ?_ | with_reducible refine yag ?_ | refine yad ?_ | refine yae ?_ | refine yaf ?_ | refine zT ?_ | refine zE ?_ | refine zX ?_))
      refine yas ?_; refine ⟨_, rfl, ?_⟩
      simp at h2
      exact yau (by simp [list_ne_at hx hy h2])
    · (repeat (first | refine zI ?_ | refine zL ?_ | refine zC ?_ | refine yai ?_ | refine yaj ?_ | refine zR ?_ | refine zD ?_ | refine zK ?_ | refine zB ?_ | refine zA ?_ | refine zS ?_ | refine zU ?_ | refine zV ?_ | refine zF ?_ | with_reducible refine yac ?_ | with_reducible refine yag ?_ | refine yad ?_ | refine yae ?_ | refine yaf ?_ | refine zT ?_ | refine zE ?_ | refine zX ?_))
      simp at h2
      exact rnd (k + 1) ⟨by omega, by rw [ych hx, ych hy, hok, h2]⟩ (by omega) (by (repeat (first | exact yan | refine yak rfl ?_))) (by first | exact yab | exact yaa rfl yab | exact yaa rfl (yaa rfl yab) | exact yaa rfl (yaa rfl (yaa rfl yab)) | exact yaa rfl (yaa rfl (yaa rfl (yaa rfl yab))))
  · simp at h1
    (repeat (first | refine zI ?_ | refine zL ?_ | refine zC ?_ | refine yai ?_ | refine yaj ?_ | refine zR ?_ | refine zD ?_ | refine zK ?_ | refine zB ?_ | refine zA ?_ | refine zS ?_ | refine zU ?_ | refine zV ?_ | refine zF ?_ | with_reducible refine yac ?_ | with_reducible refine yag ?_ | refine yad ?_ | refine yae ?_ | refine yaf ?_ | refine zT ?_ | refine zE ?_ | refine zX ?_))
    refine yas ?_; refine ⟨_, rfl, ?_⟩
    exact yau (by simp [list_eq_take hl (show k = c.length by omega) hok])
end Go.Proofs.YtmlkdoimkdbdpaaGreatDoor
