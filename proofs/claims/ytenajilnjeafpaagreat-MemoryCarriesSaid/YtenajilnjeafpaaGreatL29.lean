/- Part 29 of the texts under MemoryRanks,MemoryChanges,MemoryCarries,MemoryCorruptsNamedNodes,MemoryCarriesToItself: joined, with what it needs alone. -/
import Derived.Test.YtenajilnjeafpaaGreatL18
import Derived.Test.YtenajilnjeafpaaGreatL22
import Derived.Test.YtenajilnjeafpaaGreatL28
set_option linter.unusedVariables false
set_option maxRecDepth 100000
set_option maxHeartbeats 8000000
namespace Go.Proofs.YtenajilnjeafpaaGreat
open Go.RowKit
theorem carries_con (p : ProgD) (g h : GraphD) (c : List (List Int)) (hin : ProgIn p) : Con Tryz.prog 5 [encP p, encG g, encG h, encC c] (boolA true) := by
  refine con_of Tryz.func5 rfl rfl Tryz.ntmps5 Tryz.results5 rfl rfl ?_
  (repeat (first | refine zI ?_ | refine zL ?_ | refine zC ?_ | refine L_nil ?_ | refine A_seq ?_ | refine zR ?_ | refine zD ?_ | refine zK ?_ | refine zB ?_ | refine zA ?_ | refine zS ?_ | refine zU ?_ | refine zV ?_ | refine zF ?_ | with_reducible refine inblk_n ?_ | with_reducible refine then_n ?_ | refine A_block ?_ | refine A_skip ?_ | refine A_exit ?_ | refine zT ?_ | refine zE ?_ | refine zX ?_ | refine L_call rfl rfl (fair10_con p g c hin) rfl rfl ?_))
  refine L_split 18 rfl (fun h1 => ?_) (fun h1 => ?_)
  · (repeat (first | refine zI ?_ | refine zL ?_ | refine zC ?_ | refine L_nil ?_ | refine A_seq ?_ | refine zR ?_ | refine zD ?_ | refine zK ?_ | refine zB ?_ | refine zA ?_ | refine zS ?_ | refine zU ?_ | refine zV ?_ | refine zF ?_ | with_reducible refine inblk_n ?_ | with_reducible refine then_n ?_ | refine A_block ?_ | refine A_skip ?_ | refine A_exit ?_ | refine zT ?_ | refine zE ?_ | refine zX ?_ | refine L_call rfl rfl awake10_con rfl rfl ?_))
    refine A_ret ?_; refine ⟨_, rfl, ?_⟩
    exact frz_bool rfl
  simp at h1
  (repeat (first | refine zI ?_ | refine zL ?_ | refine zC ?_ | refine L_nil ?_ | refine A_seq ?_ | refine zR ?_ | refine zD ?_ | refine zK ?_ | refine zB ?_ | refine zA ?_ | refine zS ?_ | refine zU ?_ | refine zV ?_ | refine zF ?_ | with_reducible refine inblk_n ?_ | with_reducible refine then_n ?_ | refine A_block ?_ | refine A_skip ?_ | refine A_exit ?_ | refine zT ?_ | refine zE ?_ | refine zX ?_ | refine L_call rfl rfl (lightGraph_con h) rfl rfl ?_))
  refine A_cond rfl (fun h2 => ?_) (fun h2 => ?_)
  · (repeat (first | refine zI ?_ | refine zL ?_ | refine zC ?_ | refine L_nil ?_ | refine A_seq ?_ | refine zR ?_ | refine zD ?_ | refine zK ?_ | refine zB ?_ | refine zA ?_ | refine zS ?_ | refine zU ?_ | refine zV ?_ | refine zF ?_ | with_reducible refine inblk_n ?_ | with_reducible refine then_n ?_ | refine A_block ?_ | refine A_skip ?_ | refine A_exit ?_ | refine zT ?_ | refine zE ?_ | refine zX ?_ | refine L_call rfl rfl awake10_con rfl rfl ?_))
    refine A_ret ?_; refine ⟨_, rfl, ?_⟩
    exact frz_bool rfl
  simp at h2
  have hf : Fair p g := ⟨hin, light_of h1.1.1, h1.1.2⟩
  have hfh : Fair p h := ⟨hin, light_of h1.1.1, h2⟩
  have hc := lightC_in h1.2
  (repeat (first | refine zI ?_ | refine zL ?_ | refine zC ?_ | refine L_nil ?_ | refine A_seq ?_ | refine zR ?_ | refine zD ?_ | refine zK ?_ | refine zB ?_ | refine zA ?_ | refine zS ?_ | refine zU ?_ | refine zV ?_ | refine zF ?_ | with_reducible refine inblk_n ?_ | with_reducible refine then_n ?_ | refine A_block ?_ | refine A_skip ?_ | refine A_exit ?_ | refine zT ?_ | refine zE ?_ | refine zX ?_ | refine L_call rfl rfl (mcarry_con p g h c hf hfh hc) rfl rfl ?_ | refine L_call rfl rfl (rcarry_con p g h c hf hfh hc) rfl rfl ?_ | refine L_call rfl rfl (same_con10 _ _ (carry_in hfh)) rfl rfl ?_ | refine L_call rfl rfl awake10_con rfl rfl ?_))
  refine L_true 46 rfl (by simp) ?_
  (repeat (first | refine zI ?_ | refine zL ?_ | refine zC ?_ | refine L_nil ?_ | refine A_seq ?_ | refine zR ?_ | refine zD ?_ | refine zK ?_ | refine zB ?_ | refine zA ?_ | refine zS ?_ | refine zU ?_ | refine zV ?_ | refine zF ?_ | with_reducible refine inblk_n ?_ | with_reducible refine then_n ?_ | refine A_block ?_ | refine A_skip ?_ | refine A_exit ?_ | refine zT ?_ | refine zE ?_ | refine zX ?_))
  refine A_ret ?_; refine ⟨_, rfl, ?_⟩
  exact frz_bool (by simp)
theorem walk_MemoryCarries (v0 : Value) (z0 : ProgD) (v1 : Value) (z1 : GraphD) (v2 : Value) (z2 : GraphD) (v3 : Value) (z3 : List (List Int)) (w : World) (h0 : ProgOk w v0 z0 ∧ ProgIn z0) (h1 : GraphOk w v1 z1 ∧ GraphIn z1) (h2 : GraphOk w v2 z2 ∧ GraphIn z2) (h3 : CfgOk w v3 z3) :
    Calls Tryz.prog 5 #[v0, v1, v2, v3] w fun e w' => e = .returned (.bool true) ∧ Below w.heap.size w w' :=
  calls_of_con (carries_con z0 z1 z2 z3 h0.2) trivial (okW_lt w) (relAll_cons (prog_rel h0.1) (relAll_cons (graph_rel h1.1) (relAll_cons (graph_rel h2.1) (relAll_cons (cfg_rel h3) relAll_nil))))
end Go.Proofs.YtenajilnjeafpaaGreat
