/- Part 23 of the texts under MemoryRanks,MemoryChanges,MemoryCarries,MemoryCorruptsNamedNodes,MemoryCarriesToItself: joined, with what it needs alone. -/
import Derived.Test.YtenajilnjeafpaaGreatL18
import Derived.Test.YtenajilnjeafpaaGreatL21
import Derived.Test.YtenajilnjeafpaaGreatL22
set_option linter.unusedVariables false
set_option maxRecDepth 100000
set_option maxHeartbeats 8000000
namespace Go.Proofs.YtenajilnjeafpaaGreat
open Go.RowKit
theorem unrank_in {p : ProgD} {g : GraphD} (k : Int) (hf : Fair p g) : CfgIn (unrankM p g k).1 := by
  unfold unrankM
  by_cases h0 : fitsF p g = 0
  · rw [if_pos h0]
    split
    · split
      · exact cfg_shape hf h0 (shape_un _ _)
      · exact cfg_nil
    · exact cfg_nil
  · rw [if_neg h0]; exact cfg_nil
theorem ranks_con (p : ProgD) (g : GraphD) (c : List (List Int)) (k : Int) (hin : ProgIn p) : Con Tryz.prog 4 [encP p, encG g, encC c, i64 k] (boolA true) := by
  refine con_of Tryz.func4 rfl rfl Tryz.ntmps4 Tryz.results4 rfl rfl ?_
  (repeat (first | refine zI ?_ | refine zL ?_ | refine zC ?_ | refine L_nil ?_ | refine A_seq ?_ | refine zR ?_ | refine zD ?_ | refine zK ?_ | refine zB ?_ | refine zA ?_ | refine zS ?_ | refine zU ?_ | refine zV ?_ | refine zF ?_ | with_reducible refine inblk_n ?_ | with_reducible refine then_n ?_ | refine A_block ?_ | refine A_skip ?_ | refine A_exit ?_ | refine zT ?_ | refine zE ?_ | refine zX ?_ | refine L_call rfl rfl (fair10_con p g c hin) rfl rfl ?_))
  refine A_cond rfl (fun h => ?_) (fun h => ?_)
  · (repeat (first | refine zI ?_ | refine zL ?_ | refine zC ?_ | refine L_nil ?_ | refine A_seq ?_ | refine zR ?_ | refine zD ?_ | refine zK ?_ | refine zB ?_ | refine zA ?_ | refine zS ?_ | refine zU ?_ | refine zV ?_ | refine zF ?_ | with_reducible refine inblk_n ?_ | with_reducible refine then_n ?_ | refine A_block ?_ | refine A_skip ?_ | refine A_exit ?_ | refine zT ?_ | refine zE ?_ | refine zX ?_ | refine L_call rfl rfl awake10_con rfl rfl ?_))
    refine A_ret ?_; refine ⟨_, rfl, ?_⟩
    exact frz_bool rfl
  simp at h
  have hf : Fair p g := ⟨hin, light_of h.1.1, h.1.2⟩
  have hc := lightC_in h.2
  (repeat (first | refine zI ?_ | refine zL ?_ | refine zC ?_ | refine L_nil ?_ | refine A_seq ?_ | refine zR ?_ | refine zD ?_ | refine zK ?_ | refine zB ?_ | refine zA ?_ | refine zS ?_ | refine zU ?_ | refine zV ?_ | refine zF ?_ | with_reducible refine inblk_n ?_ | with_reducible refine then_n ?_ | refine A_block ?_ | refine A_skip ?_ | refine A_exit ?_ | refine zT ?_ | refine zE ?_ | refine zX ?_ | refine L_call rfl rfl (mrank_con p g c hf hc) rfl rfl ?_ | refine L_call rfl rfl (rrank_con p g c hf hc) rfl rfl ?_ | refine L_call rfl rfl (munrank_con p g k hf) rfl rfl ?_ | refine L_call rfl rfl (runrank_con p g k hf) rfl rfl ?_ | refine L_call rfl rfl awake10_con rfl rfl ?_))
  refine L_true 57 rfl (by simp) ?_
  (repeat (first | refine zI ?_ | refine zL ?_ | refine zC ?_ | refine L_nil ?_ | refine A_seq ?_ | refine zR ?_ | refine zD ?_ | refine zK ?_ | refine zB ?_ | refine zA ?_ | refine zS ?_ | refine zU ?_ | refine zV ?_ | refine zF ?_ | with_reducible refine inblk_n ?_ | with_reducible refine then_n ?_ | refine A_block ?_ | refine A_skip ?_ | refine A_exit ?_ | refine zT ?_ | refine zE ?_ | refine zX ?_))
  refine L_true 62 rfl (by simp) ?_
  (repeat (first | refine zI ?_ | refine zL ?_ | refine zC ?_ | refine L_nil ?_ | refine A_seq ?_ | refine zR ?_ | refine zD ?_ | refine zK ?_ | refine zB ?_ | refine zA ?_ | refine zS ?_ | refine zU ?_ | refine zV ?_ | refine zF ?_ | with_reducible refine inblk_n ?_ | with_reducible refine then_n ?_ | refine A_block ?_ | refine A_skip ?_ | refine A_exit ?_ | refine zT ?_ | refine zE ?_ | refine zX ?_ | refine L_call rfl rfl (same_con10 _ _ (unrank_in k hf)) rfl rfl ?_))
  refine L_true 67 rfl (by simp) ?_
  (repeat (first | refine zI ?_ | refine zL ?_ | refine zC ?_ | refine L_nil ?_ | refine A_seq ?_ | refine zR ?_ | refine zD ?_ | refine zK ?_ | refine zB ?_ | refine zA ?_ | refine zS ?_ | refine zU ?_ | refine zV ?_ | refine zF ?_ | with_reducible refine inblk_n ?_ | with_reducible refine then_n ?_ | refine A_block ?_ | refine A_skip ?_ | refine A_exit ?_ | refine zT ?_ | refine zE ?_ | refine zX ?_))
  refine A_ret ?_; refine ⟨_, rfl, ?_⟩
  exact frz_bool (by simp)
theorem walk_MemoryRanks {Q3 : Prop} (v0 : Value) (z0 : ProgD) (v1 : Value) (z1 : GraphD) (v2 : Value) (z2 : List (List Int)) (a3 : Int) (w : World) (h0 : ProgOk w v0 z0 ∧ ProgIn z0) (h1 : GraphOk w v1 z1 ∧ GraphIn z1) (h2 : CfgOk w v2 z2) (h3 : Q3) :
    Calls Tryz.prog 4 #[v0, v1, v2, .int .i64 a3] w fun e w' => e = .returned (.bool true) ∧ Below w.heap.size w w' :=
  calls_of_con (ranks_con z0 z1 z2 a3 h0.2) trivial (okW_lt w) (relAll_cons (prog_rel h0.1) (relAll_cons (graph_rel h1.1) (relAll_cons (cfg_rel h2) (relAll_cons (.v _) relAll_nil))))
end Go.Proofs.YtenajilnjeafpaaGreat
