/- Part 27 of the texts under MemoryRanks,MemoryChanges,MemoryCarries,MemoryCorruptsNamedNodes,MemoryCarriesToItself: joined, with what it needs alone. -/
import Derived.Test.YtenajilnjeafpaaGreatL18
import Derived.Test.YtenajilnjeafpaaGreatL22
import Derived.Test.YtenajilnjeafpaaGreatL25
import Derived.Test.YtenajilnjeafpaaGreatL26
set_option linter.unusedVariables false
set_option maxRecDepth 100000
set_option maxHeartbeats 8000000
namespace Go.Proofs.YtenajilnjeafpaaGreat
open Go.RowKit
theorem rdiffer_con (c d : List (List Int)) (hc : CfgIn c) (hd : CfgIn d) : Con Tryz.prog 32 [encC c, encC d] (u32A (differF c d)) := by
  have hcl := hc.1
  have hdl := hd.1
  refine con_of Tryz.func32 rfl rfl Tryz.ntmps32 Tryz.results32 rfl rfl ?_
  (repeat (first | refine zI ?_ | refine zL ?_ | refine zC ?_ | refine L_nil ?_ | refine A_seq ?_ | refine zR ?_ | refine zD ?_ | refine zK ?_ | refine zB ?_ | refine zA ?_ | refine zS ?_ | refine zU ?_ | refine zV ?_ | refine zF ?_ | with_reducible refine inblk_n ?_ | with_reducible refine then_n ?_ | refine A_block ?_ | refine A_skip ?_ | refine A_exit ?_ | refine zT ?_ | refine zE ?_ | refine zX ?_))
  refine A_inv (α := Nat) (fun k => [(6, i64 k), (5, u32A (setU (diffAt c d) k)), (0, encC c), (1, encC d)]) (fun _ => []) (fun k => 24 - k) (fun k => k ≤ 24) 0 (by omega) (by (repeat (first | exact subT_nil | refine subT_cons rfl ?_))) (by first | exact subH_nil | exact subH_cons rfl subH_nil | exact subH_cons rfl (subH_cons rfl subH_nil) | exact subH_cons rfl (subH_cons rfl (subH_cons rfl subH_nil)) | exact subH_cons rfl (subH_cons rfl (subH_cons rfl (subH_cons rfl subH_nil)))) ?_
  intro k hk
  (repeat (first | refine zI ?_ | refine zL ?_ | refine zC ?_ | refine L_nil ?_ | refine A_seq ?_ | refine zR ?_ | refine zD ?_ | refine zK ?_ | refine zB ?_ | refine zA ?_ | refine zS ?_ | refine zU ?_ | refine zV ?_ | refine zF ?_ | with_reducible refine inblk_n ?_ | with_reducible refine then_n ?_ | refine A_block ?_ | refine A_skip ?_ | refine A_exit ?_ | refine zT ?_ | refine zE ?_ | refine zX ?_))
  refine A_cond rfl (fun h1 => ?_) (fun h1 => ?_)
  · simp at h1
    have hnext : ∀ b, diffAt c d k = b → setU (diffAt c d) (k + 1) = if b = true then setU (diffAt c d) k ||| (1#32 <<< k) else setU (diffAt c d) k := fun b hb => by rw [setU, hb]
    (repeat (first | refine zI ?_ | refine zL ?_ | refine zC ?_ | refine L_nil ?_ | refine A_seq ?_ | refine zR ?_ | refine zD ?_ | refine zK ?_ | refine zB ?_ | refine zA ?_ | refine zS ?_ | refine zU ?_ | refine zV ?_ | refine zF ?_ | with_reducible refine inblk_n ?_ | with_reducible refine then_n ?_ | refine A_block ?_ | refine A_skip ?_ | refine A_exit ?_ | refine zT ?_ | refine zE ?_ | refine zX ?_))
    refine L_split 14 rfl (fun e1 => ?_) (fun e1 => ?_)
    · simp at e1
      obtain ⟨a, ha⟩ := getN e1
      refine L_split 18 rfl (fun e2 => ?_) (fun e2 => ?_)
      · simp at e2
        obtain ⟨b, hb⟩ := getN e2
        (repeat (first | refine L_u64 tok rfl (by constructor <;> omega) rfl rfl ?_ | refine L_shlU rfl rfl (by omega) rfl rfl ?_ | refine L_orU rfl rfl rfl rfl ?_ | refine L_andNotU rfl rfl rfl rfl ?_ | refine zI ?_ | refine zL ?_ | refine zC ?_ | refine L_nil ?_ | refine A_seq ?_ | refine zR ?_ | refine zD ?_ | refine zK ?_ | refine zB ?_ | refine zA ?_ | refine zS ?_ | refine zU ?_ | refine zV ?_ | refine zF ?_ | with_reducible refine inblk_n ?_ | with_reducible refine then_n ?_ | refine A_block ?_ | refine A_skip ?_ | refine A_exit ?_ | refine zT ?_ | refine zE ?_ | refine zX ?_ | refine L_neqB tok rfl rfl rfl rfl rfl ?_))
        refine L_split 25 rfl (fun e3 => ?_) (fun e3 => ?_)
        · (repeat (first | refine zI ?_ | refine zL ?_ | refine zC ?_ | refine L_nil ?_ | refine A_seq ?_ | refine zR ?_ | refine zD ?_ | refine zK ?_ | refine zB ?_ | refine zA ?_ | refine zS ?_ | refine zU ?_ | refine zV ?_ | refine zF ?_ | with_reducible refine inblk_n ?_ | with_reducible refine then_n ?_ | refine A_block ?_ | refine A_skip ?_ | refine A_exit ?_ | refine zT ?_ | refine zE ?_ | refine zX ?_))
          refine L_split 31 rfl (fun e4 => ?_) (fun e4 => ?_)
          · (repeat (first | refine zI ?_ | refine zL ?_ | refine zC ?_ | refine L_nil ?_ | refine A_seq ?_ | refine zR ?_ | refine zD ?_ | refine zK ?_ | refine zB ?_ | refine zA ?_ | refine zS ?_ | refine zU ?_ | refine zV ?_ | refine zF ?_ | with_reducible refine inblk_n ?_ | with_reducible refine then_n ?_ | refine A_block ?_ | refine A_skip ?_ | refine A_exit ?_ | refine zT ?_ | refine zE ?_ | refine zX ?_ | refine L_call rfl rfl (sameInts_con a b (hc.2 a (List.mem_of_getElem? ha))) rfl rfl ?_))
            refine A_cond rfl (fun h2 => ?_) (fun h2 => ?_)
            · (repeat (first | refine L_u64 tok rfl (by constructor <;> omega) rfl rfl ?_ | refine L_shlU rfl rfl (by omega) rfl rfl ?_ | refine L_orU rfl rfl rfl rfl ?_ | refine L_andNotU rfl rfl rfl rfl ?_ | refine zI ?_ | refine zL ?_ | refine zC ?_ | refine L_nil ?_ | refine A_seq ?_ | refine zR ?_ | refine zD ?_ | refine zK ?_ | refine zB ?_ | refine zA ?_ | refine zS ?_ | refine zU ?_ | refine zV ?_ | refine zF ?_ | with_reducible refine inblk_n ?_ | with_reducible refine then_n ?_ | refine A_block ?_ | refine A_skip ?_ | refine A_exit ?_ | refine zT ?_ | refine zE ?_ | refine zX ?_ | refine L_neqB tok rfl rfl rfl rfl rfl ?_))
              have e := hnext true (by simp [diffAt, ha, hb]; simpa using h2)
              rw [if_pos rfl] at e
              refine rnd (k + 1) (by omega) (by omega) ?_ (by first | exact subH_nil | exact subH_cons rfl subH_nil | exact subH_cons rfl (subH_cons rfl subH_nil) | exact subH_cons rfl (subH_cons rfl (subH_cons rfl subH_nil)) | exact subH_cons rfl (subH_cons rfl (subH_cons rfl (subH_cons rfl subH_nil))))
              rw [e]
              exact (by (repeat (first | exact subT_nil | refine subT_cons rfl ?_)))
            · (repeat (first | refine zI ?_ | refine zL ?_ | refine zC ?_ | refine L_nil ?_ | refine A_seq ?_ | refine zR ?_ | refine zD ?_ | refine zK ?_ | refine zB ?_ | refine zA ?_ | refine zS ?_ | refine zU ?_ | refine zV ?_ | refine zF ?_ | with_reducible refine inblk_n ?_ | with_reducible refine then_n ?_ | refine A_block ?_ | refine A_skip ?_ | refine A_exit ?_ | refine zT ?_ | refine zE ?_ | refine zX ?_))
              have e := hnext false (by simp [diffAt, ha, hb]; simpa using h2)
              rw [if_neg (by simp)] at e
              refine rnd (k + 1) (by omega) (by omega) ?_ (by first | exact subH_nil | exact subH_cons rfl subH_nil | exact subH_cons rfl (subH_cons rfl subH_nil) | exact subH_cons rfl (subH_cons rfl (subH_cons rfl subH_nil)) | exact subH_cons rfl (subH_cons rfl (subH_cons rfl (subH_cons rfl subH_nil))))
              rw [e]
              exact (by (repeat (first | exact subT_nil | refine subT_cons rfl ?_)))
          · exfalso; simp at e4; omega
        · exfalso; simp at e3; omega
      · simp at e2
        (repeat (first | refine L_u64 tok rfl (by constructor <;> omega) rfl rfl ?_ | refine L_shlU rfl rfl (by omega) rfl rfl ?_ | refine L_orU rfl rfl rfl rfl ?_ | refine L_andNotU rfl rfl rfl rfl ?_ | refine zI ?_ | refine zL ?_ | refine zC ?_ | refine L_nil ?_ | refine A_seq ?_ | refine zR ?_ | refine zD ?_ | refine zK ?_ | refine zB ?_ | refine zA ?_ | refine zS ?_ | refine zU ?_ | refine zV ?_ | refine zF ?_ | with_reducible refine inblk_n ?_ | with_reducible refine then_n ?_ | refine A_block ?_ | refine A_skip ?_ | refine A_exit ?_ | refine zT ?_ | refine zE ?_ | refine zX ?_ | refine L_neqB tok rfl rfl rfl rfl rfl ?_))
        have e := hnext true (by simp [diffAt, ha, List.getElem?_eq_none e2])
        rw [if_pos rfl] at e
        refine rnd (k + 1) (by omega) (by omega) ?_ (by first | exact subH_nil | exact subH_cons rfl subH_nil | exact subH_cons rfl (subH_cons rfl subH_nil) | exact subH_cons rfl (subH_cons rfl (subH_cons rfl subH_nil)) | exact subH_cons rfl (subH_cons rfl (subH_cons rfl (subH_cons rfl subH_nil))))
        rw [e]
        exact (by (repeat (first | exact subT_nil | refine subT_cons rfl ?_)))
    · simp at e1
      refine L_split 18 rfl (fun e2 => ?_) (fun e2 => ?_)
      · simp at e2
        obtain ⟨b, hb⟩ := getN e2
        (repeat (first | refine L_u64 tok rfl (by constructor <;> omega) rfl rfl ?_ | refine L_shlU rfl rfl (by omega) rfl rfl ?_ | refine L_orU rfl rfl rfl rfl ?_ | refine L_andNotU rfl rfl rfl rfl ?_ | refine zI ?_ | refine zL ?_ | refine zC ?_ | refine L_nil ?_ | refine A_seq ?_ | refine zR ?_ | refine zD ?_ | refine zK ?_ | refine zB ?_ | refine zA ?_ | refine zS ?_ | refine zU ?_ | refine zV ?_ | refine zF ?_ | with_reducible refine inblk_n ?_ | with_reducible refine then_n ?_ | refine A_block ?_ | refine A_skip ?_ | refine A_exit ?_ | refine zT ?_ | refine zE ?_ | refine zX ?_ | refine L_neqB tok rfl rfl rfl rfl rfl ?_))
        have e := hnext true (by simp [diffAt, hb, List.getElem?_eq_none e1])
        rw [if_pos rfl] at e
        refine rnd (k + 1) (by omega) (by omega) ?_ (by first | exact subH_nil | exact subH_cons rfl subH_nil | exact subH_cons rfl (subH_cons rfl subH_nil) | exact subH_cons rfl (subH_cons rfl (subH_cons rfl subH_nil)) | exact subH_cons rfl (subH_cons rfl (subH_cons rfl (subH_cons rfl subH_nil))))
        rw [e]
        exact (by (repeat (first | exact subT_nil | refine subT_cons rfl ?_)))
      · simp at e2
        (repeat (first | refine L_u64 tok rfl (by constructor <;> omega) rfl rfl ?_ | refine L_shlU rfl rfl (by omega) rfl rfl ?_ | refine L_orU rfl rfl rfl rfl ?_ | refine L_andNotU rfl rfl rfl rfl ?_ | refine zI ?_ | refine zL ?_ | refine zC ?_ | refine L_nil ?_ | refine A_seq ?_ | refine zR ?_ | refine zD ?_ | refine zK ?_ | refine zB ?_ | refine zA ?_ | refine zS ?_ | refine zU ?_ | refine zV ?_ | refine zF ?_ | with_reducible refine inblk_n ?_ | with_reducible refine then_n ?_ | refine A_block ?_ | refine A_skip ?_ | refine A_exit ?_ | refine zT ?_ | refine zE ?_ | refine zX ?_ | refine L_neqB tok rfl rfl rfl rfl rfl ?_))
        refine L_split 25 rfl (fun e3 => ?_) (fun e3 => ?_)
        · exfalso; simp at e3; omega
        · (repeat (first | refine zI ?_ | refine zL ?_ | refine zC ?_ | refine L_nil ?_ | refine A_seq ?_ | refine zR ?_ | refine zD ?_ | refine zK ?_ | refine zB ?_ | refine zA ?_ | refine zS ?_ | refine zU ?_ | refine zV ?_ | refine zF ?_ | with_reducible refine inblk_n ?_ | with_reducible refine then_n ?_ | refine A_block ?_ | refine A_skip ?_ | refine A_exit ?_ | refine zT ?_ | refine zE ?_ | refine zX ?_))
          have e := hnext false (by simp [diffAt, List.getElem?_eq_none e1, List.getElem?_eq_none e2])
          rw [if_neg (by simp)] at e
          refine rnd (k + 1) (by omega) (by omega) ?_ (by first | exact subH_nil | exact subH_cons rfl subH_nil | exact subH_cons rfl (subH_cons rfl subH_nil) | exact subH_cons rfl (subH_cons rfl (subH_cons rfl subH_nil)) | exact subH_cons rfl (subH_cons rfl (subH_cons rfl (subH_cons rfl subH_nil))))
          rw [e]
          exact (by (repeat (first | exact subT_nil | refine subT_cons rfl ?_)))
  · simp at h1
    obtain rfl : k = 24 := by omega
    (repeat (first | refine zI ?_ | refine zL ?_ | refine zC ?_ | refine L_nil ?_ | refine A_seq ?_ | refine zR ?_ | refine zD ?_ | refine zK ?_ | refine zB ?_ | refine zA ?_ | refine zS ?_ | refine zU ?_ | refine zV ?_ | refine zF ?_ | with_reducible refine inblk_n ?_ | with_reducible refine then_n ?_ | refine A_block ?_ | refine A_skip ?_ | refine A_exit ?_ | refine zT ?_ | refine zE ?_ | refine zX ?_))
    refine A_ret ?_; refine ⟨_, rfl, ?_⟩
    exact Frz.pure
end Go.Proofs.YtenajilnjeafpaaGreat
set_option linter.unusedVariables false
set_option maxRecDepth 100000
set_option maxHeartbeats 8000000
namespace Go.Proofs.YtenajilnjeafpaaGreat
open Go.RowKit
theorem shape_cor {p : ProgD} {tbl : List (List (Int × Int))} : ∀ {l : List FaultD} {c d : List (List Int)}, Shape tbl c → corL p tbl c l = some d → Shape tbl d
  | [], c, d, hs, h => by simp only [corL, Option.some.injEq] at h; subst h; exact hs
  | f :: l, c, d, hs, h => by
    simp only [corL] at h
    split at h
    · exact shape_cor (shape_set hs _ _ _) h
    · cases h
theorem corrupt_in {p : ProgD} {g : GraphD} {c : List (List Int)} (l : List FaultD) (hf : Fair p g) : CfgIn (corruptM p g c l).1 := by
  unfold corruptM
  by_cases h : checkM p g c = 0
  · obtain ⟨h0, hin⟩ := check_zero.1 h
    rw [if_pos h]
    cases hc : corL p (tableF p g) c l with
    | none => exact cfg_nil
    | some d => exact cfg_shape hf h0 (shape_cor (shape_of hin) hc)
  · rw [if_neg h]; exact cfg_nil
theorem changes_con (p : ProgD) (g : GraphD) (c d : List (List Int)) (l : List FaultD) (hin : ProgIn p) : Con Tryz.prog 7 [encP p, encG g, encC c, encC d, encFaults l] (boolA true) := by
  refine con_of Tryz.func7 rfl rfl Tryz.ntmps7 Tryz.results7 rfl rfl ?_
  (repeat (first | refine zI ?_ | refine zL ?_ | refine zC ?_ | refine L_nil ?_ | refine A_seq ?_ | refine zR ?_ | refine zD ?_ | refine zK ?_ | refine zB ?_ | refine zA ?_ | refine zS ?_ | refine zU ?_ | refine zV ?_ | refine zF ?_ | with_reducible refine inblk_n ?_ | with_reducible refine then_n ?_ | refine A_block ?_ | refine A_skip ?_ | refine A_exit ?_ | refine zT ?_ | refine zE ?_ | refine zX ?_ | refine L_call rfl rfl (fair10_con p g c hin) rfl rfl ?_))
  refine L_split 20 rfl (fun h => ?_) (fun h => ?_)
  · (repeat (first | refine zI ?_ | refine zL ?_ | refine zC ?_ | refine L_nil ?_ | refine A_seq ?_ | refine zR ?_ | refine zD ?_ | refine zK ?_ | refine zB ?_ | refine zA ?_ | refine zS ?_ | refine zU ?_ | refine zV ?_ | refine zF ?_ | with_reducible refine inblk_n ?_ | with_reducible refine then_n ?_ | refine A_block ?_ | refine A_skip ?_ | refine A_exit ?_ | refine zT ?_ | refine zE ?_ | refine zX ?_ | refine L_call rfl rfl awake10_con rfl rfl ?_))
    refine A_ret ?_; refine ⟨_, rfl, ?_⟩
    exact frz_bool rfl
  simp at h
  (repeat (first | refine zI ?_ | refine zL ?_ | refine zC ?_ | refine L_nil ?_ | refine A_seq ?_ | refine zR ?_ | refine zD ?_ | refine zK ?_ | refine zB ?_ | refine zA ?_ | refine zS ?_ | refine zU ?_ | refine zV ?_ | refine zF ?_ | with_reducible refine inblk_n ?_ | with_reducible refine then_n ?_ | refine A_block ?_ | refine A_skip ?_ | refine A_exit ?_ | refine zT ?_ | refine zE ?_ | refine zX ?_ | refine L_call rfl rfl (lightCfg_con d) rfl rfl ?_))
  refine L_split 25 rfl (fun h2 => ?_) (fun h2 => ?_)
  · (repeat (first | refine zI ?_ | refine zL ?_ | refine zC ?_ | refine L_nil ?_ | refine A_seq ?_ | refine zR ?_ | refine zD ?_ | refine zK ?_ | refine zB ?_ | refine zA ?_ | refine zS ?_ | refine zU ?_ | refine zV ?_ | refine zF ?_ | with_reducible refine inblk_n ?_ | with_reducible refine then_n ?_ | refine A_block ?_ | refine A_skip ?_ | refine A_exit ?_ | refine zT ?_ | refine zE ?_ | refine zX ?_ | refine L_call rfl rfl awake10_con rfl rfl ?_))
    refine A_ret ?_; refine ⟨_, rfl, ?_⟩
    exact frz_bool rfl
  simp at h2
  (repeat (first | refine zI ?_ | refine zL ?_ | refine zC ?_ | refine L_nil ?_ | refine A_seq ?_ | refine zR ?_ | refine zD ?_ | refine zK ?_ | refine zB ?_ | refine zA ?_ | refine zS ?_ | refine zU ?_ | refine zV ?_ | refine zF ?_ | with_reducible refine inblk_n ?_ | with_reducible refine then_n ?_ | refine A_block ?_ | refine A_skip ?_ | refine A_exit ?_ | refine zT ?_ | refine zE ?_ | refine zX ?_))
  refine A_cond rfl (fun h3 => ?_) (fun h3 => ?_)
  · (repeat (first | refine zI ?_ | refine zL ?_ | refine zC ?_ | refine L_nil ?_ | refine A_seq ?_ | refine zR ?_ | refine zD ?_ | refine zK ?_ | refine zB ?_ | refine zA ?_ | refine zS ?_ | refine zU ?_ | refine zV ?_ | refine zF ?_ | with_reducible refine inblk_n ?_ | with_reducible refine then_n ?_ | refine A_block ?_ | refine A_skip ?_ | refine A_exit ?_ | refine zT ?_ | refine zE ?_ | refine zX ?_ | refine L_call rfl rfl awake10_con rfl rfl ?_))
    refine A_ret ?_; refine ⟨_, rfl, ?_⟩
    exact frz_bool rfl
  simp at h3
  have hf : Fair p g := ⟨hin, light_of h.1.1, h.1.2⟩
  have hc := lightC_in h.2
  have hd := lightC_in h2
  (repeat (first | refine zI ?_ | refine zL ?_ | refine zC ?_ | refine L_nil ?_ | refine A_seq ?_ | refine zR ?_ | refine zD ?_ | refine zK ?_ | refine zB ?_ | refine zA ?_ | refine zS ?_ | refine zU ?_ | refine zV ?_ | refine zF ?_ | with_reducible refine inblk_n ?_ | with_reducible refine then_n ?_ | refine A_block ?_ | refine A_skip ?_ | refine A_exit ?_ | refine zT ?_ | refine zE ?_ | refine zX ?_ | refine L_call rfl rfl (mcorrupt_con p g c l hf hc (by omega)) rfl rfl ?_ | refine L_call rfl rfl (rcorrupt_con p g c l hf hc (by omega)) rfl rfl ?_ | refine L_call rfl rfl (mdiffer_con c d hc hd) rfl rfl ?_ | refine L_call rfl rfl (rdiffer_con c d hc hd) rfl rfl ?_ | refine L_call rfl rfl awake10_con rfl rfl ?_))
  refine L_true 57 rfl (by simp) ?_
  (repeat (first | refine zI ?_ | refine zL ?_ | refine zC ?_ | refine L_nil ?_ | refine A_seq ?_ | refine zR ?_ | refine zD ?_ | refine zK ?_ | refine zB ?_ | refine zA ?_ | refine zS ?_ | refine zU ?_ | refine zV ?_ | refine zF ?_ | with_reducible refine inblk_n ?_ | with_reducible refine then_n ?_ | refine A_block ?_ | refine A_skip ?_ | refine A_exit ?_ | refine zT ?_ | refine zE ?_ | refine zX ?_ | refine L_call rfl rfl (same_con10 _ _ (corrupt_in l hf)) rfl rfl ?_))
  refine L_true 62 rfl (by simp) ?_
  (repeat (first | refine zI ?_ | refine zL ?_ | refine zC ?_ | refine L_nil ?_ | refine A_seq ?_ | refine zR ?_ | refine zD ?_ | refine zK ?_ | refine zB ?_ | refine zA ?_ | refine zS ?_ | refine zU ?_ | refine zV ?_ | refine zF ?_ | with_reducible refine inblk_n ?_ | with_reducible refine then_n ?_ | refine A_block ?_ | refine A_skip ?_ | refine A_exit ?_ | refine zT ?_ | refine zE ?_ | refine zX ?_))
  refine A_ret ?_; refine ⟨_, rfl, ?_⟩
  exact frz_bool (by simp)
theorem walk_MemoryChanges (v0 : Value) (z0 : ProgD) (v1 : Value) (z1 : GraphD) (v2 : Value) (z2 : List (List Int)) (v3 : Value) (z3 : List (List Int)) (v4 : Value) (z4 : List FaultD) (w : World) (h0 : ProgOk w v0 z0 ∧ ProgIn z0) (h1 : GraphOk w v1 z1 ∧ GraphIn z1) (h2 : CfgOk w v2 z2) (h3 : CfgOk w v3 z3) (h4 : FaultsOk w v4 z4) :
    Calls Tryz.prog 7 #[v0, v1, v2, v3, v4] w fun e w' => e = .returned (.bool true) ∧ Below w.heap.size w w' :=
  calls_of_con (changes_con z0 z1 z2 z3 z4 h0.2) trivial (okW_lt w) (relAll_cons (prog_rel h0.1) (relAll_cons (graph_rel h1.1) (relAll_cons (cfg_rel h2) (relAll_cons (cfg_rel h3) (relAll_cons (faults_rel h4) relAll_nil)))))
end Go.Proofs.YtenajilnjeafpaaGreat
