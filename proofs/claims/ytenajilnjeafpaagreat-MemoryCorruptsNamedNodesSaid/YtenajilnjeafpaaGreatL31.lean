/- Part 31 of the texts under MemoryRanks,MemoryChanges,MemoryCarries,MemoryCorruptsNamedNodes,MemoryCarriesToItself: joined, with what it needs alone. -/
import Derived.Test.YtenajilnjeafpaaGreatL22
import Derived.Test.YtenajilnjeafpaaGreatL30
set_option linter.unusedVariables false
set_option maxRecDepth 100000
set_option maxHeartbeats 8000000
namespace Go.Proofs.YtenajilnjeafpaaGreat
open Go.RowKit
theorem named_con (p : ProgD) (g : GraphD) (c : List (List Int)) (l : List FaultD) (hin : ProgIn p) : Con Tryz.prog 8 [encP p, encG g, encC c, encFaults l] (boolA true) := by
  refine con_of Tryz.func8 rfl rfl Tryz.ntmps8 Tryz.results8 rfl rfl ?_
  (repeat (first | refine zI ?_ | refine zL ?_ | refine zC ?_ | refine L_nil ?_ | refine A_seq ?_ | refine zR ?_ | refine zD ?_ | refine zK ?_ | refine zB ?_ | refine zA ?_ | refine zS ?_ | refine zU ?_ | refine zV ?_ | refine zF ?_ | with_reducible refine inblk_n ?_ | with_reducible refine then_n ?_ | refine A_block ?_ | refine A_skip ?_ | refine A_exit ?_ | refine zT ?_ | refine zE ?_ | refine zX ?_ | refine L_call rfl rfl (fair10_con p g c hin) rfl rfl ?_))
  refine L_split 21 rfl (fun h1 => ?_) (fun h1 => ?_)
  · (repeat (first | refine zI ?_ | refine zL ?_ | refine zC ?_ | refine L_nil ?_ | refine A_seq ?_ | refine zR ?_ | refine zD ?_ | refine zK ?_ | refine zB ?_ | refine zA ?_ | refine zS ?_ | refine zU ?_ | refine zV ?_ | refine zF ?_ | with_reducible refine inblk_n ?_ | with_reducible refine then_n ?_ | refine A_block ?_ | refine A_skip ?_ | refine A_exit ?_ | refine zT ?_ | refine zE ?_ | refine zX ?_ | refine L_call rfl rfl awake10_con rfl rfl ?_))
    refine A_ret ?_; refine ⟨_, rfl, ?_⟩
    exact frz_bool rfl
  simp at h1
  have hf : Fair p g := ⟨hin, light_of h1.1.1, h1.1.2⟩
  have hc := lightC_in h1.2
  (repeat (first | refine zI ?_ | refine zL ?_ | refine zC ?_ | refine L_nil ?_ | refine A_seq ?_ | refine zR ?_ | refine zD ?_ | refine zK ?_ | refine zB ?_ | refine zA ?_ | refine zS ?_ | refine zU ?_ | refine zV ?_ | refine zF ?_ | with_reducible refine inblk_n ?_ | with_reducible refine then_n ?_ | refine A_block ?_ | refine A_skip ?_ | refine A_exit ?_ | refine zT ?_ | refine zE ?_ | refine zX ?_))
  refine L_split 26 rfl (fun h2 => ?_) (fun h2 => ?_)
  · (repeat (first | refine zI ?_ | refine zL ?_ | refine zC ?_ | refine L_nil ?_ | refine A_seq ?_ | refine zR ?_ | refine zD ?_ | refine zK ?_ | refine zB ?_ | refine zA ?_ | refine zS ?_ | refine zU ?_ | refine zV ?_ | refine zF ?_ | with_reducible refine inblk_n ?_ | with_reducible refine then_n ?_ | refine A_block ?_ | refine A_skip ?_ | refine A_exit ?_ | refine zT ?_ | refine zE ?_ | refine zX ?_ | refine L_call rfl rfl awake10_con rfl rfl ?_))
    refine A_ret ?_; refine ⟨_, rfl, ?_⟩
    exact frz_bool rfl
  simp at h2
  (repeat (first | refine zI ?_ | refine zL ?_ | refine zC ?_ | refine L_nil ?_ | refine A_seq ?_ | refine zR ?_ | refine zD ?_ | refine zK ?_ | refine zB ?_ | refine zA ?_ | refine zS ?_ | refine zU ?_ | refine zV ?_ | refine zF ?_ | with_reducible refine inblk_n ?_ | with_reducible refine then_n ?_ | refine A_block ?_ | refine A_skip ?_ | refine A_exit ?_ | refine zT ?_ | refine zE ?_ | refine zX ?_ | refine L_call rfl rfl (rvalid10_con p g c hf hc) rfl rfl ?_))
  refine A_cond rfl (fun h3 => ?_) (fun h3 => ?_)
  · (repeat (first | refine zI ?_ | refine zL ?_ | refine zC ?_ | refine L_nil ?_ | refine A_seq ?_ | refine zR ?_ | refine zD ?_ | refine zK ?_ | refine zB ?_ | refine zA ?_ | refine zS ?_ | refine zU ?_ | refine zV ?_ | refine zF ?_ | with_reducible refine inblk_n ?_ | with_reducible refine then_n ?_ | refine A_block ?_ | refine A_skip ?_ | refine A_exit ?_ | refine zT ?_ | refine zE ?_ | refine zX ?_ | refine L_call rfl rfl awake10_con rfl rfl ?_))
    refine A_ret ?_; refine ⟨_, rfl, ?_⟩
    exact frz_bool rfl
  have hck : checkM p g c = 0 := by simpa using h3
  obtain ⟨h0, hinc⟩ := check_zero.1 hck
  have hsh := shape_of hinc
  have htn : (tableF p g).length = c.length := hsh.1.symm
  have hw : ∀ (v : Nat) (r : List (Int × Int)), (tableF p g)[v]? = some r → r.length = p.vars.length := fun v r h => table_row h
  have hcm : corruptM p g c l = if allOk c.length p.vars.length l = true then (corF p (tableF p g) c l, 0) else ([], 2) := by
    rw [corruptM, if_pos hck, corL_F, htn]
    by_cases h : allOk c.length p.vars.length l = true
    · rw [if_pos h, if_pos h]
    · rw [if_neg h, if_neg h]
  have hcor := mcorrupt_con p g c l hf hc (by omega)
  have hcl : c.length ≤ 1000 := by rw [← htn]; exact (table_in hf h0).1
  have hvl := hf.vlen
  obtain ⟨R, hR⟩ : ∃ R, R = corruptM p g c l := ⟨_, rfl⟩
  rw [← hR] at hcm hcor
  (repeat (first | refine zI ?_ | refine zL ?_ | refine zC ?_ | refine L_nil ?_ | refine A_seq ?_ | refine zR ?_ | refine zD ?_ | refine zK ?_ | refine zB ?_ | refine zA ?_ | refine zS ?_ | refine zU ?_ | refine zV ?_ | refine zF ?_ | with_reducible refine inblk_n ?_ | with_reducible refine then_n ?_ | refine A_block ?_ | refine A_skip ?_ | refine A_exit ?_ | refine zT ?_ | refine zE ?_ | refine zX ?_ | refine L_call rfl rfl hcor rfl rfl ?_))
  refine A_inv (α := Nat) (fun i => [(12, i64 i), (11, u32A (namedU (l.take i))), (9, encC R.1), (10, i64 R.2), (2, encC c), (3, encFaults l), (4, .lp 4 0), (5, .lp 5 0)]) (fun _ => pgF p g 4 5) (fun i => l.length - i) (fun i => i ≤ l.length ∧ allOk c.length p.vars.length (l.take i) = true) 0 ⟨by omega, rfl⟩ (by (repeat (first | exact subT_nil | refine subT_cons rfl ?_))) (by first | exact subH_nil | exact subH_cons rfl subH_nil | exact subH_cons rfl (subH_cons rfl subH_nil) | exact subH_cons rfl (subH_cons rfl (subH_cons rfl subH_nil)) | exact subH_cons rfl (subH_cons rfl (subH_cons rfl (subH_cons rfl subH_nil)))) ?_
  intro i ⟨hi, hok⟩
  (repeat (first | refine zI ?_ | refine zL ?_ | refine zC ?_ | refine L_nil ?_ | refine A_seq ?_ | refine zR ?_ | refine zD ?_ | refine zK ?_ | refine zB ?_ | refine zA ?_ | refine zS ?_ | refine zU ?_ | refine zV ?_ | refine zF ?_ | with_reducible refine inblk_n ?_ | with_reducible refine then_n ?_ | refine A_block ?_ | refine A_skip ?_ | refine A_exit ?_ | refine zT ?_ | refine zE ?_ | refine zX ?_))
  refine A_cond rfl (fun h4 => ?_) (fun h4 => ?_)
  · simp at h4
    obtain ⟨f, hfi⟩ := getN h4
    have hbad : faultOk c.length p.vars.length f = false → R = ([], 2) := by
      intro e
      rw [hcm, if_neg]
      intro e2
      have := List.all_eq_true.1 e2 f (List.mem_of_getElem? hfi)
      rw [e] at this; cases this
    (repeat (first | refine zI ?_ | refine zL ?_ | refine zC ?_ | refine L_nil ?_ | refine A_seq ?_ | refine zR ?_ | refine zD ?_ | refine zK ?_ | refine zB ?_ | refine zA ?_ | refine zS ?_ | refine zU ?_ | refine zV ?_ | refine zF ?_ | with_reducible refine inblk_n ?_ | with_reducible refine then_n ?_ | refine A_block ?_ | refine A_skip ?_ | refine A_exit ?_ | refine zT ?_ | refine zE ?_ | refine zX ?_ | refine L_call rfl rfl (in_con _ _ _) rfl rfl ?_))
    refine L_split 58 rfl (fun h5 => ?_) (fun h5 => ?_)
    · simp [inB] at h5
      have e := hbad (by simp [faultOk]; omega)
      subst e
      (repeat (first | refine zI ?_ | refine zL ?_ | refine zC ?_ | refine L_nil ?_ | refine A_seq ?_ | refine zR ?_ | refine zD ?_ | refine zK ?_ | refine zB ?_ | refine zA ?_ | refine zS ?_ | refine zU ?_ | refine zV ?_ | refine zF ?_ | with_reducible refine inblk_n ?_ | with_reducible refine then_n ?_ | refine A_block ?_ | refine A_skip ?_ | refine A_exit ?_ | refine zT ?_ | refine zE ?_ | refine zX ?_ | refine L_call rfl rfl awake10_con rfl rfl ?_))
      refine A_ret ?_; refine ⟨_, rfl, ?_⟩
      exact frz_bool rfl
    simp [inB] at h5
    (repeat (first | refine zI ?_ | refine zL ?_ | refine zC ?_ | refine L_nil ?_ | refine A_seq ?_ | refine zR ?_ | refine zD ?_ | refine zK ?_ | refine zB ?_ | refine zA ?_ | refine zS ?_ | refine zU ?_ | refine zV ?_ | refine zF ?_ | with_reducible refine inblk_n ?_ | with_reducible refine then_n ?_ | refine A_block ?_ | refine A_skip ?_ | refine A_exit ?_ | refine zT ?_ | refine zE ?_ | refine zX ?_ | refine L_call rfl rfl (in_con _ _ _) rfl rfl ?_))
    refine A_cond rfl (fun h6 => ?_) (fun h6 => ?_)
    · simp [inB] at h6
      have e := hbad (by simp [faultOk]; omega)
      subst e
      (repeat (first | refine zI ?_ | refine zL ?_ | refine zC ?_ | refine L_nil ?_ | refine A_seq ?_ | refine zR ?_ | refine zD ?_ | refine zK ?_ | refine zB ?_ | refine zA ?_ | refine zS ?_ | refine zU ?_ | refine zV ?_ | refine zF ?_ | with_reducible refine inblk_n ?_ | with_reducible refine then_n ?_ | refine A_block ?_ | refine A_skip ?_ | refine A_exit ?_ | refine zT ?_ | refine zE ?_ | refine zX ?_ | refine L_call rfl rfl awake10_con rfl rfl ?_))
      refine A_ret ?_; refine ⟨_, rfl, ?_⟩
      exact frz_bool rfl
    simp [inB] at h6
    (repeat (first | refine L_u64 tok rfl (by constructor <;> omega) rfl rfl ?_ | refine L_shlU rfl rfl (by omega) rfl rfl ?_ | refine L_orU rfl rfl rfl rfl ?_ | refine L_andNotU rfl rfl rfl rfl ?_ | refine zI ?_ | refine zL ?_ | refine zC ?_ | refine L_nil ?_ | refine A_seq ?_ | refine zR ?_ | refine zD ?_ | refine zK ?_ | refine zB ?_ | refine zA ?_ | refine zS ?_ | refine zU ?_ | refine zV ?_ | refine zF ?_ | with_reducible refine inblk_n ?_ | with_reducible refine then_n ?_ | refine A_block ?_ | refine A_skip ?_ | refine A_exit ?_ | refine zT ?_ | refine zE ?_ | refine zX ?_))
    refine rnd (i + 1) ⟨by omega, ?_⟩ (by omega) ?_ (by first | exact subH_nil | exact subH_cons rfl subH_nil | exact subH_cons rfl (subH_cons rfl subH_nil) | exact subH_cons rfl (subH_cons rfl (subH_cons rfl subH_nil)) | exact subH_cons rfl (subH_cons rfl (subH_cons rfl (subH_cons rfl subH_nil))))
    · simp only [allOk] at hok ⊢
      exact allM_snoc hfi hok (by simp [faultOk]; omega)
    · rw [take_snocM hfi, namedU_snoc]
      exact (by (repeat (first | exact subT_nil | refine subT_cons rfl ?_)))
  · simp at h4
    obtain rfl : i = l.length := by omega
    rw [List.take_length] at hok ⊢
    rw [if_pos hok] at hcm
    subst hcm
    clear hR hcor
    have hdin := corF_in hf h0 (l := l) hinc
    have hdc : checkM p g (corF p (tableF p g) c l) = 0 := check_zero.2 ⟨h0, hdin⟩
    have hdsh := shape_of hdin
    have hd := cfg_shape hf h0 hdsh
    have hok' : ∀ f ∈ l, 0 ≤ f.node ∧ f.node < c.length ∧ 0 ≤ f.var ∧ f.var < p.vars.length := fun f hf => faultOk_spec (List.all_eq_true.1 hok f hf)
    have hdl : (corF p (tableF p g) c l).length = c.length := by rw [hdsh.1, htn]
    have hdn := differ_named (p := p) (tbl := tableF p g) (c := c) (l := l)
    have hlast := fun i f y => corF_last (p := p) (tbl := tableF p g) (c := c) (l := l) (i := i) (f := f) (y := y)
    obtain ⟨D, hD⟩ : ∃ D, D = corF p (tableF p g) c l := ⟨_, rfl⟩
    rw [← hD] at hdin hdc hdsh hd hdl hdn hlast ⊢
    (repeat (first | refine zI ?_ | refine zL ?_ | refine zC ?_ | refine L_nil ?_ | refine A_seq ?_ | refine zR ?_ | refine zD ?_ | refine zK ?_ | refine zB ?_ | refine zA ?_ | refine zS ?_ | refine zU ?_ | refine zV ?_ | refine zF ?_ | with_reducible refine inblk_n ?_ | with_reducible refine then_n ?_ | refine A_block ?_ | refine A_skip ?_ | refine A_exit ?_ | refine zT ?_ | refine zE ?_ | refine zX ?_))
    refine L_split 99 rfl (fun h5 => ?_) (fun h5 => ?_)
    · exfalso; simp [hdl] at h5
    (repeat (first | refine zI ?_ | refine zL ?_ | refine zC ?_ | refine L_nil ?_ | refine A_seq ?_ | refine zR ?_ | refine zD ?_ | refine zK ?_ | refine zB ?_ | refine zA ?_ | refine zS ?_ | refine zU ?_ | refine zV ?_ | refine zF ?_ | with_reducible refine inblk_n ?_ | with_reducible refine then_n ?_ | refine A_block ?_ | refine A_skip ?_ | refine A_exit ?_ | refine zT ?_ | refine zE ?_ | refine zX ?_ | refine L_call rfl rfl (rvalid10_con p g D hf hd) rfl rfl ?_))
    refine L_split 106 rfl (fun h6 => ?_) (fun h6 => ?_)
    · exfalso; simp [hdc] at h6
    (repeat (first | refine L_u64 tok rfl (by constructor <;> omega) rfl rfl ?_ | refine L_shlU rfl rfl (by omega) rfl rfl ?_ | refine L_orU rfl rfl rfl rfl ?_ | refine L_andNotU rfl rfl rfl rfl ?_ | refine zI ?_ | refine zL ?_ | refine zC ?_ | refine L_nil ?_ | refine A_seq ?_ | refine zR ?_ | refine zD ?_ | refine zK ?_ | refine zB ?_ | refine zA ?_ | refine zS ?_ | refine zU ?_ | refine zV ?_ | refine zF ?_ | with_reducible refine inblk_n ?_ | with_reducible refine then_n ?_ | refine A_block ?_ | refine A_skip ?_ | refine A_exit ?_ | refine zT ?_ | refine zE ?_ | refine zX ?_ | refine L_call rfl rfl (mdiffer_con c D hc hd) rfl rfl ?_))
    refine A_cond rfl (fun h7 => ?_) (fun h7 => ?_)
    · exfalso; simp [hdn] at h7
    (repeat (first | refine zI ?_ | refine zL ?_ | refine zC ?_ | refine L_nil ?_ | refine A_seq ?_ | refine zR ?_ | refine zD ?_ | refine zK ?_ | refine zB ?_ | refine zA ?_ | refine zS ?_ | refine zU ?_ | refine zV ?_ | refine zF ?_ | with_reducible refine inblk_n ?_ | with_reducible refine then_n ?_ | refine A_block ?_ | refine A_skip ?_ | refine A_exit ?_ | refine zT ?_ | refine zE ?_ | refine zX ?_))
    refine A_inv (α := Nat) (fun i => [(13, i64 i), (9, encC D), (3, encFaults l), (4, .lp 4 0), (5, .lp 5 0)]) (fun _ => pgF p g 4 5) (fun i => l.length - i) (fun i => i ≤ l.length) 0 (by omega) (by (repeat (first | exact subT_nil | refine subT_cons rfl ?_))) (by first | exact subH_nil | exact subH_cons rfl subH_nil | exact subH_cons rfl (subH_cons rfl subH_nil) | exact subH_cons rfl (subH_cons rfl (subH_cons rfl subH_nil)) | exact subH_cons rfl (subH_cons rfl (subH_cons rfl (subH_cons rfl subH_nil)))) ?_
    intro i hi
    (repeat (first | refine zI ?_ | refine zL ?_ | refine zC ?_ | refine L_nil ?_ | refine A_seq ?_ | refine zR ?_ | refine zD ?_ | refine zK ?_ | refine zB ?_ | refine zA ?_ | refine zS ?_ | refine zU ?_ | refine zV ?_ | refine zF ?_ | with_reducible refine inblk_n ?_ | with_reducible refine then_n ?_ | refine A_block ?_ | refine A_skip ?_ | refine A_exit ?_ | refine zT ?_ | refine zE ?_ | refine zX ?_))
    refine A_cond rfl (fun h8 => ?_) (fun h8 => ?_)
    · simp at h8
      obtain ⟨f, hfi⟩ := getN h8
      obtain ⟨q1, q2, q3, q4⟩ := hok' f (List.mem_of_getElem? hfi)
      (repeat (first | refine zI ?_ | refine zL ?_ | refine zC ?_ | refine L_nil ?_ | refine A_seq ?_ | refine zR ?_ | refine zD ?_ | refine zK ?_ | refine zB ?_ | refine zA ?_ | refine zS ?_ | refine zU ?_ | refine zV ?_ | refine zF ?_ | with_reducible refine inblk_n ?_ | with_reducible refine then_n ?_ | refine A_block ?_ | refine A_skip ?_ | refine A_exit ?_ | refine zT ?_ | refine zE ?_ | refine zX ?_))
      refine A_inv (α := Nat × Bool) (fun a => [(15, i64 a.1), (14, boolA a.2), (13, i64 i), (9, encC D), (3, encFaults l), (4, .lp 4 0), (5, .lp 5 0)]) (fun _ => pgF p g 4 5) (fun a => l.length - a.1) (fun a => i + 1 ≤ a.1 ∧ a.1 ≤ l.length ∧ (a.2 = true → ∀ q ∈ (l.take a.1).drop (i + 1), q.node ≠ f.node ∨ q.var ≠ f.var)) (i + 1, true) ⟨by simp, by simp; omega, fun _ q hq => by simp at hq⟩ (by (repeat (first | exact subT_nil | refine subT_cons rfl ?_))) (by first | exact subH_nil | exact subH_cons rfl subH_nil | exact subH_cons rfl (subH_cons rfl subH_nil) | exact subH_cons rfl (subH_cons rfl (subH_cons rfl subH_nil)) | exact subH_cons rfl (subH_cons rfl (subH_cons rfl (subH_cons rfl subH_nil)))) ?_
      rintro ⟨k, b⟩ ⟨hk1, hk2, hkb⟩
      simp only at hk1 hk2 hkb ⊢
      have hround : k < l.length → ∀ (q : FaultD) (b' : Bool), l[k]? = some q → (b' = true → b = true ∧ (q.node ≠ f.node ∨ q.var ≠ f.var)) → i + 1 ≤ k + 1 ∧ k + 1 ≤ l.length ∧ (b' = true → ∀ q ∈ (l.take (k + 1)).drop (i + 1), q.node ≠ f.node ∨ q.var ≠ f.var) := by
        intro hlt q b' hq hb'
        refine ⟨by omega, by omega, fun e x hx => ?_⟩
        obtain ⟨e1, e2⟩ := hb' e
        rw [take_snocM hq, List.drop_append_of_le_length (by simp; omega)] at hx
        rcases List.mem_append.1 hx with hx | hx
        · exact hkb e1 x hx
        · rcases List.mem_singleton.1 hx with rfl
          exact e2
      (repeat (first | refine zI ?_ | refine zL ?_ | refine zC ?_ | refine L_nil ?_ | refine A_seq ?_ | refine zR ?_ | refine zD ?_ | refine zK ?_ | refine zB ?_ | refine zA ?_ | refine zS ?_ | refine zU ?_ | refine zV ?_ | refine zF ?_ | with_reducible refine inblk_n ?_ | with_reducible refine then_n ?_ | refine A_block ?_ | refine A_skip ?_ | refine A_exit ?_ | refine zT ?_ | refine zE ?_ | refine zX ?_))
      refine A_cond rfl (fun h9 => ?_) (fun h9 => ?_)
      · simp at h9
        obtain ⟨q, hqk⟩ := getN h9
        have hrd := hround h9 q
        (repeat (first | refine zI ?_ | refine zL ?_ | refine zC ?_ | refine L_nil ?_ | refine A_seq ?_ | refine zR ?_ | refine zD ?_ | refine zK ?_ | refine zB ?_ | refine zA ?_ | refine zS ?_ | refine zU ?_ | refine zV ?_ | refine zF ?_ | with_reducible refine inblk_n ?_ | with_reducible refine then_n ?_ | refine A_block ?_ | refine A_skip ?_ | refine A_exit ?_ | refine zT ?_ | refine zE ?_ | refine zX ?_))
        refine L_split 129 rfl (fun h10 => ?_) (fun h10 => ?_)
        · (repeat (first | refine zI ?_ | refine zL ?_ | refine zC ?_ | refine L_nil ?_ | refine A_seq ?_ | refine zR ?_ | refine zD ?_ | refine zK ?_ | refine zB ?_ | refine zA ?_ | refine zS ?_ | refine zU ?_ | refine zV ?_ | refine zF ?_ | with_reducible refine inblk_n ?_ | with_reducible refine then_n ?_ | refine A_block ?_ | refine A_skip ?_ | refine A_exit ?_ | refine zT ?_ | refine zE ?_ | refine zX ?_))
          refine L_split 141 rfl (fun h11 => ?_) (fun h11 => ?_)
          · simp at h11
            (repeat (first | refine zI ?_ | refine zL ?_ | refine zC ?_ | refine L_nil ?_ | refine A_seq ?_ | refine zR ?_ | refine zD ?_ | refine zK ?_ | refine zB ?_ | refine zA ?_ | refine zS ?_ | refine zU ?_ | refine zV ?_ | refine zF ?_ | with_reducible refine inblk_n ?_ | with_reducible refine then_n ?_ | refine A_block ?_ | refine A_skip ?_ | refine A_exit ?_ | refine zT ?_ | refine zE ?_ | refine zX ?_))
            exact rnd (k + 1, true) (hrd true hqk fun _ => ⟨h10, .inl h11⟩) (by simp only; omega) (by (repeat (first | exact subT_nil | refine subT_cons rfl ?_))) (by first | exact subH_nil | exact subH_cons rfl subH_nil | exact subH_cons rfl (subH_cons rfl subH_nil) | exact subH_cons rfl (subH_cons rfl (subH_cons rfl subH_nil)) | exact subH_cons rfl (subH_cons rfl (subH_cons rfl (subH_cons rfl subH_nil))))
          · simp at h11
            (repeat (first | refine zI ?_ | refine zL ?_ | refine zC ?_ | refine L_nil ?_ | refine A_seq ?_ | refine zR ?_ | refine zD ?_ | refine zK ?_ | refine zB ?_ | refine zA ?_ | refine zS ?_ | refine zU ?_ | refine zV ?_ | refine zF ?_ | with_reducible refine inblk_n ?_ | with_reducible refine then_n ?_ | refine A_block ?_ | refine A_skip ?_ | refine A_exit ?_ | refine zT ?_ | refine zE ?_ | refine zX ?_))
            refine rnd (k + 1, !(q.var == f.var)) (hrd _ hqk fun e => ⟨h10, .inr (by simpa using e)⟩) (by simp only; omega) ?_ (by first | exact subH_nil | exact subH_cons rfl subH_nil | exact subH_cons rfl (subH_cons rfl subH_nil) | exact subH_cons rfl (subH_cons rfl (subH_cons rfl subH_nil)) | exact subH_cons rfl (subH_cons rfl (subH_cons rfl (subH_cons rfl subH_nil))))
            exact (by (repeat (first | exact subT_nil | refine subT_cons rfl ?_)))
        · (repeat (first | refine zI ?_ | refine zL ?_ | refine zC ?_ | refine L_nil ?_ | refine A_seq ?_ | refine zR ?_ | refine zD ?_ | refine zK ?_ | refine zB ?_ | refine zA ?_ | refine zS ?_ | refine zU ?_ | refine zV ?_ | refine zF ?_ | with_reducible refine inblk_n ?_ | with_reducible refine then_n ?_ | refine A_block ?_ | refine A_skip ?_ | refine A_exit ?_ | refine zT ?_ | refine zE ?_ | refine zX ?_))
          exact rnd (k + 1, false) (hrd false hqk fun e => by cases e) (by simp only; omega) (by (repeat (first | exact subT_nil | refine subT_cons rfl ?_))) (by first | exact subH_nil | exact subH_cons rfl subH_nil | exact subH_cons rfl (subH_cons rfl subH_nil) | exact subH_cons rfl (subH_cons rfl (subH_cons rfl subH_nil)) | exact subH_cons rfl (subH_cons rfl (subH_cons rfl (subH_cons rfl subH_nil))))
      · simp at h9
        obtain rfl : k = l.length := by omega
        (repeat (first | refine zI ?_ | refine zL ?_ | refine zC ?_ | refine L_nil ?_ | refine A_seq ?_ | refine zR ?_ | refine zD ?_ | refine zK ?_ | refine zB ?_ | refine zA ?_ | refine zS ?_ | refine zU ?_ | refine zV ?_ | refine zF ?_ | with_reducible refine inblk_n ?_ | with_reducible refine then_n ?_ | refine A_block ?_ | refine A_skip ?_ | refine A_exit ?_ | refine zT ?_ | refine zE ?_ | refine zX ?_))
        refine L_split 156 rfl (fun h10 => ?_) (fun h10 => ?_)
        · obtain ⟨r, hr⟩ := getN (show f.node.toNat < (tableF p g).length by omega)
          obtain ⟨b', hb'⟩ := getN (show f.var.toNat < r.length by rw [hw _ r hr]; omega)
          obtain ⟨y0, hy0, _⟩ := (cfgIn_iff.1 hinc).2 _ _ r b' hr hb'
          have hg2 := hlast i f y0 hfi hy0 hsh (fun x hx => by
            have hx' := hkb h10 x (by rw [List.take_length]; exact hx)
            obtain ⟨s1, s2, s3, s4⟩ := hok' x (List.mem_of_mem_drop hx)
            omega)
          rw [← clamp_brought h0 q1 q3 hr hb'] at hg2
          obtain ⟨s, hs, hz⟩ := get2_some.1 hg2
          (repeat (first | refine zI ?_ | refine zL ?_ | refine zC ?_ | refine L_nil ?_ | refine A_seq ?_ | refine zR ?_ | refine zD ?_ | refine zK ?_ | refine zB ?_ | refine zA ?_ | refine zS ?_ | refine zU ?_ | refine zV ?_ | refine zF ?_ | with_reducible refine inblk_n ?_ | with_reducible refine then_n ?_ | refine A_block ?_ | refine A_skip ?_ | refine A_exit ?_ | refine zT ?_ | refine zE ?_ | refine zX ?_ | refine L_call rfl rfl (rclamp_con p g _ _ _ hf) rfl rfl ?_))
          refine A_cond rfl (fun h11 => ?_) (fun h11 => ?_)
          · exfalso; simp at h11
          · (repeat (first | refine zI ?_ | refine zL ?_ | refine zC ?_ | refine L_nil ?_ | refine A_seq ?_ | refine zR ?_ | refine zD ?_ | refine zK ?_ | refine zB ?_ | refine zA ?_ | refine zS ?_ | refine zU ?_ | refine zV ?_ | refine zF ?_ | with_reducible refine inblk_n ?_ | with_reducible refine then_n ?_ | refine A_block ?_ | refine A_skip ?_ | refine A_exit ?_ | refine zT ?_ | refine zE ?_ | refine zX ?_))
            exact rnd (i + 1) (by omega) (by omega) (by (repeat (first | exact subT_nil | refine subT_cons rfl ?_))) (by first | exact subH_nil | exact subH_cons rfl subH_nil | exact subH_cons rfl (subH_cons rfl subH_nil) | exact subH_cons rfl (subH_cons rfl (subH_cons rfl subH_nil)) | exact subH_cons rfl (subH_cons rfl (subH_cons rfl (subH_cons rfl subH_nil))))
        · (repeat (first | refine zI ?_ | refine zL ?_ | refine zC ?_ | refine L_nil ?_ | refine A_seq ?_ | refine zR ?_ | refine zD ?_ | refine zK ?_ | refine zB ?_ | refine zA ?_ | refine zS ?_ | refine zU ?_ | refine zV ?_ | refine zF ?_ | with_reducible refine inblk_n ?_ | with_reducible refine then_n ?_ | refine A_block ?_ | refine A_skip ?_ | refine A_exit ?_ | refine zT ?_ | refine zE ?_ | refine zX ?_))
          exact rnd (i + 1) (by omega) (by omega) (by (repeat (first | exact subT_nil | refine subT_cons rfl ?_))) (by first | exact subH_nil | exact subH_cons rfl subH_nil | exact subH_cons rfl (subH_cons rfl subH_nil) | exact subH_cons rfl (subH_cons rfl (subH_cons rfl subH_nil)) | exact subH_cons rfl (subH_cons rfl (subH_cons rfl (subH_cons rfl subH_nil))))
    · simp at h8
      (repeat (first | refine zI ?_ | refine zL ?_ | refine zC ?_ | refine L_nil ?_ | refine A_seq ?_ | refine zR ?_ | refine zD ?_ | refine zK ?_ | refine zB ?_ | refine zA ?_ | refine zS ?_ | refine zU ?_ | refine zV ?_ | refine zF ?_ | with_reducible refine inblk_n ?_ | with_reducible refine then_n ?_ | refine A_block ?_ | refine A_skip ?_ | refine A_exit ?_ | refine zT ?_ | refine zE ?_ | refine zX ?_ | refine L_call rfl rfl awake10_con rfl rfl ?_))
      refine A_ret ?_; refine ⟨_, rfl, ?_⟩
      exact frz_bool rfl
theorem walk_MemoryCorruptsNamedNodes (v0 : Value) (z0 : ProgD) (v1 : Value) (z1 : GraphD) (v2 : Value) (z2 : List (List Int)) (v3 : Value) (z3 : List FaultD) (w : World) (h0 : ProgOk w v0 z0 ∧ ProgIn z0) (h1 : GraphOk w v1 z1 ∧ GraphIn z1) (h2 : CfgOk w v2 z2) (h3 : FaultsOk w v3 z3) :
    Calls Tryz.prog 8 #[v0, v1, v2, v3] w fun e w' => e = .returned (.bool true) ∧ Below w.heap.size w w' :=
  calls_of_con (named_con z0 z1 z2 z3 h0.2) trivial (okW_lt w) (relAll_cons (prog_rel h0.1) (relAll_cons (graph_rel h1.1) (relAll_cons (cfg_rel h2) (relAll_cons (faults_rel h3) relAll_nil))))
end Go.Proofs.YtenajilnjeafpaaGreat
