/- Part 16 of the texts under MemoryRanks,MemoryChanges,MemoryCarries,MemoryCorruptsNamedNodes,MemoryCarriesToItself: joined, with what it needs alone. -/
import Derived.Test.YtenajilnjeafpaaGreatL5
import Derived.Test.YtenajilnjeafpaaGreatL10
import Derived.Test.YtenajilnjeafpaaGreatL15
set_option linter.unusedVariables false
set_option maxRecDepth 100000
set_option maxHeartbeats 8000000
namespace Go.Proofs.YtenajilnjeafpaaGreat
open Go.RowKit

theorem greatest_con (g : GraphD) (hlen : g.ids.length ≤ 1000) : Con Tryz.prog 66 [encG g] (i64 (greatestL g.ids)) := by
  refine con_of Tryz.func66 rfl rfl Tryz.ntmps66 Tryz.results66 rfl rfl ?_
  (repeat (first | refine zI ?_ | refine zL ?_ | refine zC ?_ | refine L_nil ?_ | refine A_seq ?_ | refine zR ?_ | refine zD ?_ | refine zK ?_ | refine zB ?_ | refine zA ?_ | refine zS ?_ | refine zU ?_ | refine zV ?_ | refine zF ?_ | with_reducible refine inblk_n ?_ | with_reducible refine then_n ?_ | refine A_block ?_ | refine A_skip ?_ | refine A_exit ?_ | refine zT ?_ | refine zE ?_ | refine zX ?_))
  refine A_inv (α := Nat) (fun k => [(4, i64 k), (3, i64 (greatestL (g.ids.take k))), (1, .lp 1 0)]) (fun k => [(1, some (.cells [encInts g.ids, encPorts g.ports]))]) (fun k => g.ids.length - k) (fun k => k ≤ g.ids.length) 0 (by omega) (by (repeat (first | exact subT_nil | refine subT_cons rfl ?_))) (by first | exact subH_nil | exact subH_cons rfl subH_nil | exact subH_cons rfl (subH_cons rfl subH_nil) | exact subH_cons rfl (subH_cons rfl (subH_cons rfl subH_nil)) | exact subH_cons rfl (subH_cons rfl (subH_cons rfl (subH_cons rfl subH_nil)))) ?_
  intro k hk
  (repeat (first | refine zI ?_ | refine zL ?_ | refine zC ?_ | refine L_nil ?_ | refine A_seq ?_ | refine zR ?_ | refine zD ?_ | refine zK ?_ | refine zB ?_ | refine zA ?_ | refine zS ?_ | refine zU ?_ | refine zV ?_ | refine zF ?_ | with_reducible refine inblk_n ?_ | with_reducible refine then_n ?_ | refine A_block ?_ | refine A_skip ?_ | refine A_exit ?_ | refine zT ?_ | refine zE ?_ | refine zX ?_))
  refine A_cond rfl (fun h => ?_) (fun h => ?_)
  · simp at h
    obtain ⟨x, hx⟩ := getN h
    (repeat (first | refine zI ?_ | refine zL ?_ | refine zC ?_ | refine L_nil ?_ | refine A_seq ?_ | refine zR ?_ | refine zD ?_ | refine zK ?_ | refine zB ?_ | refine zA ?_ | refine zS ?_ | refine zU ?_ | refine zV ?_ | refine zF ?_ | with_reducible refine inblk_n ?_ | with_reducible refine then_n ?_ | refine A_block ?_ | refine A_skip ?_ | refine A_exit ?_ | refine zT ?_ | refine zE ?_ | refine zX ?_))
    refine rnd (k + 1) (by omega) (by omega) ?_ (by first | exact subH_nil | exact subH_cons rfl subH_nil | exact subH_cons rfl (subH_cons rfl subH_nil) | exact subH_cons rfl (subH_cons rfl (subH_cons rfl subH_nil)) | exact subH_cons rfl (subH_cons rfl (subH_cons rfl (subH_cons rfl subH_nil))))
    refine subT_cons rfl (subT_cons ?_ (by (repeat (first | exact subT_nil | refine subT_cons rfl ?_))))
    rw [greatestL_snoc _ _ _ hx]; rfl
  · simp at h
    obtain rfl : k = g.ids.length := by omega
    (repeat (first | refine zI ?_ | refine zL ?_ | refine zC ?_ | refine L_nil ?_ | refine A_seq ?_ | refine zR ?_ | refine zD ?_ | refine zK ?_ | refine zB ?_ | refine zA ?_ | refine zS ?_ | refine zU ?_ | refine zV ?_ | refine zF ?_ | with_reducible refine inblk_n ?_ | with_reducible refine then_n ?_ | refine A_block ?_ | refine A_skip ?_ | refine A_exit ?_ | refine zT ?_ | refine zE ?_ | refine zX ?_))
    refine A_ret ?_; refine ⟨_, rfl, ?_⟩
    exact frz_i64 (by rw [List.take_length])

theorem max_con (ids : List Int) (hlen : ids.length ≤ 1000) (h1 : 1 ≤ ids.length) (h0 : ∀ x ∈ ids, 0 ≤ x) : Con Tryz.prog 74 [encInts ids] (i64 (greatestL ids)) := by
  obtain ⟨a, ha⟩ := getN (show 0 < ids.length by omega)
  have ha0 := h0 a (List.mem_of_getElem? ha)
  refine con_of Tryz.func74 rfl rfl Tryz.ntmps74 Tryz.results74 rfl rfl ?_
  (repeat (first | refine zI ?_ | refine zL ?_ | refine zC ?_ | refine L_nil ?_ | refine A_seq ?_ | refine zR ?_ | refine zD ?_ | refine zK ?_ | refine zB ?_ | refine zA ?_ | refine zS ?_ | refine zU ?_ | refine zV ?_ | refine zF ?_ | with_reducible refine inblk_n ?_ | with_reducible refine then_n ?_ | refine A_block ?_ | refine A_skip ?_ | refine A_exit ?_ | refine zT ?_ | refine zE ?_ | refine zX ?_))
  refine A_cond rfl (fun h => ?_) (fun h => ?_)
  · simp at h; omega
  (repeat (first | refine zI ?_ | refine zL ?_ | refine zC ?_ | refine L_nil ?_ | refine A_seq ?_ | refine zR ?_ | refine zD ?_ | refine zK ?_ | refine zB ?_ | refine zA ?_ | refine zS ?_ | refine zU ?_ | refine zV ?_ | refine zF ?_ | with_reducible refine inblk_n ?_ | with_reducible refine then_n ?_ | refine A_block ?_ | refine A_skip ?_ | refine A_exit ?_ | refine zT ?_ | refine zE ?_ | refine zX ?_))
  refine A_inv (α := Nat) (fun k => [(4, i64 k), (3, i64 (greatestL (ids.take k))), (0, encInts ids)]) (fun k => []) (fun k => ids.length - k) (fun k => 1 ≤ k ∧ k ≤ ids.length) 1 (by omega) ?_ (by first | exact subH_nil | exact subH_cons rfl subH_nil | exact subH_cons rfl (subH_cons rfl subH_nil) | exact subH_cons rfl (subH_cons rfl (subH_cons rfl subH_nil)) | exact subH_cons rfl (subH_cons rfl (subH_cons rfl (subH_cons rfl subH_nil)))) ?_
  · refine subT_cons rfl (subT_cons ?_ (by (repeat (first | exact subT_nil | refine subT_cons rfl ?_))))
    have e : greatestL (ids.take 1) = a := by
      rw [greatestL_snoc ids 0 a ha]
      simp [greatestL]
      omega
    rw [e]; rfl
  intro k ⟨hk1, hk⟩
  (repeat (first | refine zI ?_ | refine zL ?_ | refine zC ?_ | refine L_nil ?_ | refine A_seq ?_ | refine zR ?_ | refine zD ?_ | refine zK ?_ | refine zB ?_ | refine zA ?_ | refine zS ?_ | refine zU ?_ | refine zV ?_ | refine zF ?_ | with_reducible refine inblk_n ?_ | with_reducible refine then_n ?_ | refine A_block ?_ | refine A_skip ?_ | refine A_exit ?_ | refine zT ?_ | refine zE ?_ | refine zX ?_))
  refine A_cond rfl (fun h => ?_) (fun h => ?_)
  · simp at h
    obtain ⟨x, hx⟩ := getN h
    (repeat (first | refine zI ?_ | refine zL ?_ | refine zC ?_ | refine L_nil ?_ | refine A_seq ?_ | refine zR ?_ | refine zD ?_ | refine zK ?_ | refine zB ?_ | refine zA ?_ | refine zS ?_ | refine zU ?_ | refine zV ?_ | refine zF ?_ | with_reducible refine inblk_n ?_ | with_reducible refine then_n ?_ | refine A_block ?_ | refine A_skip ?_ | refine A_exit ?_ | refine zT ?_ | refine zE ?_ | refine zX ?_))
    refine rnd (k + 1) (by omega) (by omega) ?_ (by first | exact subH_nil | exact subH_cons rfl subH_nil | exact subH_cons rfl (subH_cons rfl subH_nil) | exact subH_cons rfl (subH_cons rfl (subH_cons rfl subH_nil)) | exact subH_cons rfl (subH_cons rfl (subH_cons rfl (subH_cons rfl subH_nil))))
    refine subT_cons rfl (subT_cons ?_ (by (repeat (first | exact subT_nil | refine subT_cons rfl ?_))))
    rw [greatestL_snoc _ _ _ hx]; rfl
  · simp at h
    obtain rfl : k = ids.length := by omega
    (repeat (first | refine zI ?_ | refine zL ?_ | refine zC ?_ | refine L_nil ?_ | refine A_seq ?_ | refine zR ?_ | refine zD ?_ | refine zK ?_ | refine zB ?_ | refine zA ?_ | refine zS ?_ | refine zU ?_ | refine zV ?_ | refine zF ?_ | with_reducible refine inblk_n ?_ | with_reducible refine then_n ?_ | refine A_block ?_ | refine A_skip ?_ | refine A_exit ?_ | refine zT ?_ | refine zE ?_ | refine zX ?_))
    refine A_ret ?_; refine ⟨_, rfl, ?_⟩
    exact frz_i64 (by rw [List.take_length])

theorem frz_pair {h : Nat → Option LObj} {a b a' b' : Int} (e1 : a = a') (e2 : b = b') : Frz h (.tup [.v (.int .i64 a), .v (.int .i64 b)]) (.tup [i64 a', i64 b']) := by subst e1 e2; exact Frz.pure
def pairA (q : Int × Int) : AV := .tup [i64 q.1, i64 q.2]

theorem bounds1_con (x : VarD) (g : GraphD) (v : Int) (hx : numB x = true) (hg : validG g = true) : Con Tryz.prog 73 [.agg (encVar x), encG g, i64 v] (.tup [i64 x.lo, i64 (x.hi + x.perNode * g.ports.length + x.perID * greatestL g.ids)]) := by
  have hf := valid_facts hg
  have hn := num_facts hx
  have ht := terms_bd hx hg
  have hlen : (g.ids.length : Int) = g.ports.length := by omega
  have ht2 : 0 ≤ x.perNode * (g.ids.length : Int) ∧ x.perNode * (g.ids.length : Int) ≤ 255 * 24 := by rw [hlen]; omega
  refine con_of Tryz.func73 rfl rfl Tryz.ntmps73 Tryz.results73 rfl rfl ?_
  (repeat (first | refine zI ?_ | refine zL ?_ | refine zC ?_ | refine L_nil ?_ | refine A_seq ?_ | refine zR ?_ | refine zD ?_ | refine zK ?_ | refine zB ?_ | refine zA ?_ | refine zS ?_ | refine zU ?_ | refine zV ?_ | refine zF ?_ | with_reducible refine inblk_n ?_ | with_reducible refine then_n ?_ | refine A_block ?_ | refine A_skip ?_ | refine A_exit ?_ | refine zT ?_ | refine zE ?_ | refine zX ?_ | refine L_call rfl rfl (max_con g.ids (by omega) (by omega) (fun y hy => (hf.2.2.2.1 y hy).1)) rfl rfl ?_))
  refine A_ret ?_; refine ⟨_, rfl, ?_⟩
  exact frz_pair rfl (by rw [hlen])
theorem bounds2_con (x : VarD) (g : GraphD) (v : Int) : Con Tryz.prog 75 [.agg (encVar x), encG g, i64 v] (.tup [i64 0, i64 1]) := by
  refine con_of Tryz.func75 rfl rfl Tryz.ntmps75 Tryz.results75 rfl rfl ?_
  (repeat (first | refine zI ?_ | refine zL ?_ | refine zC ?_ | refine L_nil ?_ | refine A_seq ?_ | refine zR ?_ | refine zD ?_ | refine zK ?_ | refine zB ?_ | refine zA ?_ | refine zS ?_ | refine zU ?_ | refine zV ?_ | refine zF ?_ | with_reducible refine inblk_n ?_ | with_reducible refine then_n ?_ | refine A_block ?_ | refine A_skip ?_ | refine A_exit ?_ | refine zT ?_ | refine zE ?_ | refine zX ?_))
  refine A_ret ?_; refine ⟨_, rfl, ?_⟩
  exact frz_pair rfl rfl
theorem bounds3_con (x : VarD) (g : GraphD) (v : Int) (ls : List Lk) (h0 : 0 ≤ v) (hv : g.ports[v.toNat]? = some ls) (hl : ls.length ≤ 1000) : Con Tryz.prog 76 [.agg (encVar x), encG g, i64 v] (.tup [i64 (-1), i64 (ls.length - 1)]) := by
  refine con_of Tryz.func76 rfl rfl Tryz.ntmps76 Tryz.results76 rfl rfl ?_
  (repeat (first | refine zI ?_ | refine zL ?_ | refine zC ?_ | refine L_nil ?_ | refine A_seq ?_ | refine zR ?_ | refine zD ?_ | refine zK ?_ | refine zB ?_ | refine zA ?_ | refine zS ?_ | refine zU ?_ | refine zV ?_ | refine zF ?_ | with_reducible refine inblk_n ?_ | with_reducible refine then_n ?_ | refine A_block ?_ | refine A_skip ?_ | refine A_exit ?_ | refine zT ?_ | refine zE ?_ | refine zX ?_))
  refine A_ret ?_; refine ⟨_, rfl, ?_⟩
  exact frz_pair rfl rfl

theorem bounds_con (x : VarD) (g : GraphD) (v : Int) (ls : List Lk) (hx : numB x = true) (hg : validG g = true) (h0 : 0 ≤ v) (hv : g.ports[v.toNat]? = some ls) (hl : ls.length ≤ 1000) :
    Con Tryz.prog 63 [.agg (encVar x), encG g, i64 v] (pairA (boundsV x g ls.length)) := by
  have hn := num_facts hx
  refine con_of Tryz.func63 rfl rfl Tryz.ntmps63 Tryz.results63 rfl rfl ?_
  (repeat (first | refine zI ?_ | refine zL ?_ | refine zC ?_ | refine L_nil ?_ | refine A_seq ?_ | refine zR ?_ | refine zD ?_ | refine zK ?_ | refine zB ?_ | refine zA ?_ | refine zS ?_ | refine zU ?_ | refine zV ?_ | refine zF ?_ | with_reducible refine inblk_n ?_ | with_reducible refine then_n ?_ | refine A_block ?_ | refine A_skip ?_ | refine A_exit ?_ | refine zT ?_ | refine zE ?_ | refine zX ?_))
  refine A_loopU (LoopA_step ?_)
  (repeat (first | refine zI ?_ | refine zL ?_ | refine zC ?_ | refine L_nil ?_ | refine A_seq ?_ | refine zR ?_ | refine zD ?_ | refine zK ?_ | refine zB ?_ | refine zA ?_ | refine zS ?_ | refine zU ?_ | refine zV ?_ | refine zF ?_ | with_reducible refine inblk_n ?_ | with_reducible refine then_n ?_ | refine A_block ?_ | refine A_skip ?_ | refine A_exit ?_ | refine zT ?_ | refine zE ?_ | refine zX ?_))
  refine L_index tok rfl rfl rfl (by omega) (row := [i64 1, .fn 73 []]) rfl rfl rfl ?_
  (repeat (first | refine zI ?_ | refine zL ?_ | refine zC ?_ | refine L_nil ?_ | refine A_seq ?_ | refine zR ?_ | refine zD ?_ | refine zK ?_ | refine zB ?_ | refine zA ?_ | refine zS ?_ | refine zU ?_ | refine zV ?_ | refine zF ?_ | with_reducible refine inblk_n ?_ | with_reducible refine then_n ?_ | refine A_block ?_ | refine A_skip ?_ | refine A_exit ?_ | refine zT ?_ | refine zE ?_ | refine zX ?_))
  refine A_cond rfl (fun h1 => ?_) (fun h1 => ?_)
  · simp at h1
    (repeat (first | refine zI ?_ | refine zL ?_ | refine zC ?_ | refine L_nil ?_ | refine A_seq ?_ | refine zR ?_ | refine zD ?_ | refine zK ?_ | refine zB ?_ | refine zA ?_ | refine zS ?_ | refine zU ?_ | refine zV ?_ | refine zF ?_ | with_reducible refine inblk_n ?_ | with_reducible refine then_n ?_ | refine A_block ?_ | refine A_skip ?_ | refine A_exit ?_ | refine zT ?_ | refine zE ?_ | refine zX ?_ | refine L_call rfl rfl (bounds1_con x g v hx hg) rfl rfl ?_))
    refine A_ret ?_; refine ⟨_, rfl, ?_⟩
    unfold boundsV
    rw [if_neg (by omega), if_neg (by omega)]
    exact Frz.pure
  simp at h1
  (repeat (first | refine zI ?_ | refine zL ?_ | refine zC ?_ | refine L_nil ?_ | refine A_seq ?_ | refine zR ?_ | refine zD ?_ | refine zK ?_ | refine zB ?_ | refine zA ?_ | refine zS ?_ | refine zU ?_ | refine zV ?_ | refine zF ?_ | with_reducible refine inblk_n ?_ | with_reducible refine then_n ?_ | refine A_block ?_ | refine A_skip ?_ | refine A_exit ?_ | refine zT ?_ | refine zE ?_ | refine zX ?_))
  refine LoopA_sub (t' := [(17, i64 1), (16, i64 3), (15, .sl 2 [[i64 1, .fn 73 []], [i64 2, .fn 75 []], [i64 3, .fn 76 []]]), (3, .lp 3 0), (4, .lp 4 0), (2, i64 v)]) (h' := [(3, some (.cells (encVar x))), (4, some (.cells [encInts g.ids, encPorts g.ports]))]) (LoopA_step ?_) (by (repeat (first | exact subT_nil | refine subT_cons rfl ?_))) (by first | exact subH_nil | exact subH_cons rfl subH_nil | exact subH_cons rfl (subH_cons rfl subH_nil) | exact subH_cons rfl (subH_cons rfl (subH_cons rfl subH_nil)) | exact subH_cons rfl (subH_cons rfl (subH_cons rfl (subH_cons rfl subH_nil))))
  (repeat (first | refine zI ?_ | refine zL ?_ | refine zC ?_ | refine L_nil ?_ | refine A_seq ?_ | refine zR ?_ | refine zD ?_ | refine zK ?_ | refine zB ?_ | refine zA ?_ | refine zS ?_ | refine zU ?_ | refine zV ?_ | refine zF ?_ | with_reducible refine inblk_n ?_ | with_reducible refine then_n ?_ | refine A_block ?_ | refine A_skip ?_ | refine A_exit ?_ | refine zT ?_ | refine zE ?_ | refine zX ?_))
  refine L_index tok rfl rfl rfl (by omega) (row := [i64 2, .fn 75 []]) rfl rfl rfl ?_
  (repeat (first | refine zI ?_ | refine zL ?_ | refine zC ?_ | refine L_nil ?_ | refine A_seq ?_ | refine zR ?_ | refine zD ?_ | refine zK ?_ | refine zB ?_ | refine zA ?_ | refine zS ?_ | refine zU ?_ | refine zV ?_ | refine zF ?_ | with_reducible refine inblk_n ?_ | with_reducible refine then_n ?_ | refine A_block ?_ | refine A_skip ?_ | refine A_exit ?_ | refine zT ?_ | refine zE ?_ | refine zX ?_))
  refine A_cond rfl (fun h2 => ?_) (fun h2 => ?_)
  · simp at h2
    (repeat (first | refine zI ?_ | refine zL ?_ | refine zC ?_ | refine L_nil ?_ | refine A_seq ?_ | refine zR ?_ | refine zD ?_ | refine zK ?_ | refine zB ?_ | refine zA ?_ | refine zS ?_ | refine zU ?_ | refine zV ?_ | refine zF ?_ | with_reducible refine inblk_n ?_ | with_reducible refine then_n ?_ | refine A_block ?_ | refine A_skip ?_ | refine A_exit ?_ | refine zT ?_ | refine zE ?_ | refine zX ?_ | refine L_call rfl rfl (bounds2_con x g v) rfl rfl ?_))
    refine A_ret ?_; refine ⟨_, rfl, ?_⟩
    unfold boundsV
    rw [if_pos (by omega)]
    exact Frz.pure
  simp at h2
  (repeat (first | refine zI ?_ | refine zL ?_ | refine zC ?_ | refine L_nil ?_ | refine A_seq ?_ | refine zR ?_ | refine zD ?_ | refine zK ?_ | refine zB ?_ | refine zA ?_ | refine zS ?_ | refine zU ?_ | refine zV ?_ | refine zF ?_ | with_reducible refine inblk_n ?_ | with_reducible refine then_n ?_ | refine A_block ?_ | refine A_skip ?_ | refine A_exit ?_ | refine zT ?_ | refine zE ?_ | refine zX ?_))
  refine LoopA_sub (t' := [(17, i64 2), (16, i64 3), (15, .sl 2 [[i64 1, .fn 73 []], [i64 2, .fn 75 []], [i64 3, .fn 76 []]]), (3, .lp 3 0), (4, .lp 4 0), (2, i64 v)]) (h' := [(3, some (.cells (encVar x))), (4, some (.cells [encInts g.ids, encPorts g.ports]))]) (LoopA_step ?_) (by (repeat (first | exact subT_nil | refine subT_cons rfl ?_))) (by first | exact subH_nil | exact subH_cons rfl subH_nil | exact subH_cons rfl (subH_cons rfl subH_nil) | exact subH_cons rfl (subH_cons rfl (subH_cons rfl subH_nil)) | exact subH_cons rfl (subH_cons rfl (subH_cons rfl (subH_cons rfl subH_nil))))
  (repeat (first | refine zI ?_ | refine zL ?_ | refine zC ?_ | refine L_nil ?_ | refine A_seq ?_ | refine zR ?_ | refine zD ?_ | refine zK ?_ | refine zB ?_ | refine zA ?_ | refine zS ?_ | refine zU ?_ | refine zV ?_ | refine zF ?_ | with_reducible refine inblk_n ?_ | with_reducible refine then_n ?_ | refine A_block ?_ | refine A_skip ?_ | refine A_exit ?_ | refine zT ?_ | refine zE ?_ | refine zX ?_))
  refine L_index tok rfl rfl rfl (by omega) (row := [i64 3, .fn 76 []]) rfl rfl rfl ?_
  (repeat (first | refine zI ?_ | refine zL ?_ | refine zC ?_ | refine L_nil ?_ | refine A_seq ?_ | refine zR ?_ | refine zD ?_ | refine zK ?_ | refine zB ?_ | refine zA ?_ | refine zS ?_ | refine zU ?_ | refine zV ?_ | refine zF ?_ | with_reducible refine inblk_n ?_ | with_reducible refine then_n ?_ | refine A_block ?_ | refine A_skip ?_ | refine A_exit ?_ | refine zT ?_ | refine zE ?_ | refine zX ?_))
  refine A_cond rfl (fun h3 => ?_) (fun h3 => ?_)
  · simp at h3
    (repeat (first | refine zI ?_ | refine zL ?_ | refine zC ?_ | refine L_nil ?_ | refine A_seq ?_ | refine zR ?_ | refine zD ?_ | refine zK ?_ | refine zB ?_ | refine zA ?_ | refine zS ?_ | refine zU ?_ | refine zV ?_ | refine zF ?_ | with_reducible refine inblk_n ?_ | with_reducible refine then_n ?_ | refine A_block ?_ | refine A_skip ?_ | refine A_exit ?_ | refine zT ?_ | refine zE ?_ | refine zX ?_ | refine L_call rfl rfl (bounds3_con x g v ls h0 hv hl) rfl rfl ?_))
    refine A_ret ?_; refine ⟨_, rfl, ?_⟩
    unfold boundsV
    rw [if_neg (by omega), if_pos (by omega)]
    exact Frz.pure
  · simp at h3
    omega
end Go.Proofs.YtenajilnjeafpaaGreat
set_option linter.unusedVariables false
set_option maxRecDepth 100000
set_option maxHeartbeats 8000000
namespace Go.Proofs.YtenajilnjeafpaaGreat
open Go.RowKit

theorem bring_con (kind lo hi value : Int) : Con Tryz.prog 56 [i64 kind, .agg [i64 lo, i64 hi], i64 value] (i64 (bringF kind lo hi value)) := by
  refine con_of Tryz.func56 rfl rfl Tryz.ntmps56 Tryz.results56 rfl rfl ?_
  (repeat (first | refine zI ?_ | refine zL ?_ | refine zC ?_ | refine L_nil ?_ | refine A_seq ?_ | refine zR ?_ | refine zD ?_ | refine zK ?_ | refine zB ?_ | refine zA ?_ | refine zS ?_ | refine zU ?_ | refine zV ?_ | refine zF ?_ | with_reducible refine inblk_n ?_ | with_reducible refine then_n ?_ | refine A_block ?_ | refine A_skip ?_ | refine A_exit ?_ | refine zT ?_ | refine zE ?_ | refine zX ?_))
  refine L_split 12 rfl (fun h1 => ?_) (fun h1 => ?_)
  · simp at h1
    (repeat (first | refine zI ?_ | refine zL ?_ | refine zC ?_ | refine L_nil ?_ | refine A_seq ?_ | refine zR ?_ | refine zD ?_ | refine zK ?_ | refine zB ?_ | refine zA ?_ | refine zS ?_ | refine zU ?_ | refine zV ?_ | refine zF ?_ | with_reducible refine inblk_n ?_ | with_reducible refine then_n ?_ | refine A_block ?_ | refine A_skip ?_ | refine A_exit ?_ | refine zT ?_ | refine zE ?_ | refine zX ?_))
    refine A_cond rfl (fun h2 => ?_) (fun h2 => ?_)
    · simp at h2
      (repeat (first | refine zI ?_ | refine zL ?_ | refine zC ?_ | refine L_nil ?_ | refine A_seq ?_ | refine zR ?_ | refine zD ?_ | refine zK ?_ | refine zB ?_ | refine zA ?_ | refine zS ?_ | refine zU ?_ | refine zV ?_ | refine zF ?_ | with_reducible refine inblk_n ?_ | with_reducible refine then_n ?_ | refine A_block ?_ | refine A_skip ?_ | refine A_exit ?_ | refine zT ?_ | refine zE ?_ | refine zX ?_))
      refine A_ret ?_; refine ⟨_, rfl, ?_⟩
      exact frz_i64 (by unfold bringF; rw [if_pos ⟨h1, h2⟩])
    simp at h2
    (repeat (first | refine zI ?_ | refine zL ?_ | refine zC ?_ | refine L_nil ?_ | refine A_seq ?_ | refine zR ?_ | refine zD ?_ | refine zK ?_ | refine zB ?_ | refine zA ?_ | refine zS ?_ | refine zU ?_ | refine zV ?_ | refine zF ?_ | with_reducible refine inblk_n ?_ | with_reducible refine then_n ?_ | refine A_block ?_ | refine A_skip ?_ | refine A_exit ?_ | refine zT ?_ | refine zE ?_ | refine zX ?_))
    refine A_cond rfl (fun h3 => ?_) (fun h3 => ?_)
    · simp at h3
      (repeat (first | refine zI ?_ | refine zL ?_ | refine zC ?_ | refine L_nil ?_ | refine A_seq ?_ | refine zR ?_ | refine zD ?_ | refine zK ?_ | refine zB ?_ | refine zA ?_ | refine zS ?_ | refine zU ?_ | refine zV ?_ | refine zF ?_ | with_reducible refine inblk_n ?_ | with_reducible refine then_n ?_ | refine A_block ?_ | refine A_skip ?_ | refine A_exit ?_ | refine zT ?_ | refine zE ?_ | refine zX ?_))
      refine A_ret ?_; refine ⟨_, rfl, ?_⟩
      exact frz_i64 (by unfold bringF; rw [if_neg (by omega), if_pos h3])
    simp at h3
    (repeat (first | refine zI ?_ | refine zL ?_ | refine zC ?_ | refine L_nil ?_ | refine A_seq ?_ | refine zR ?_ | refine zD ?_ | refine zK ?_ | refine zB ?_ | refine zA ?_ | refine zS ?_ | refine zU ?_ | refine zV ?_ | refine zF ?_ | with_reducible refine inblk_n ?_ | with_reducible refine then_n ?_ | refine A_block ?_ | refine A_skip ?_ | refine A_exit ?_ | refine zT ?_ | refine zE ?_ | refine zX ?_))
    refine A_cond rfl (fun h4 => ?_) (fun h4 => ?_)
    · simp at h4; omega
    · (repeat (first | refine zI ?_ | refine zL ?_ | refine zC ?_ | refine L_nil ?_ | refine A_seq ?_ | refine zR ?_ | refine zD ?_ | refine zK ?_ | refine zB ?_ | refine zA ?_ | refine zS ?_ | refine zU ?_ | refine zV ?_ | refine zF ?_ | with_reducible refine inblk_n ?_ | with_reducible refine then_n ?_ | refine A_block ?_ | refine A_skip ?_ | refine A_exit ?_ | refine zT ?_ | refine zE ?_ | refine zX ?_))
      refine A_ret ?_; refine ⟨_, rfl, ?_⟩
      exact frz_i64 (by unfold bringF; rw [if_neg (by omega), if_neg h3, if_neg (by omega)])
  · simp at h1
    (repeat (first | refine zI ?_ | refine zL ?_ | refine zC ?_ | refine L_nil ?_ | refine A_seq ?_ | refine zR ?_ | refine zD ?_ | refine zK ?_ | refine zB ?_ | refine zA ?_ | refine zS ?_ | refine zU ?_ | refine zV ?_ | refine zF ?_ | with_reducible refine inblk_n ?_ | with_reducible refine then_n ?_ | refine A_block ?_ | refine A_skip ?_ | refine A_exit ?_ | refine zT ?_ | refine zE ?_ | refine zX ?_))
    refine A_cond rfl (fun h3 => ?_) (fun h3 => ?_)
    · simp at h3
      (repeat (first | refine zI ?_ | refine zL ?_ | refine zC ?_ | refine L_nil ?_ | refine A_seq ?_ | refine zR ?_ | refine zD ?_ | refine zK ?_ | refine zB ?_ | refine zA ?_ | refine zS ?_ | refine zU ?_ | refine zV ?_ | refine zF ?_ | with_reducible refine inblk_n ?_ | with_reducible refine then_n ?_ | refine A_block ?_ | refine A_skip ?_ | refine A_exit ?_ | refine zT ?_ | refine zE ?_ | refine zX ?_))
      refine A_ret ?_; refine ⟨_, rfl, ?_⟩
      exact frz_i64 (by unfold bringF; rw [if_neg (by omega), if_pos h3])
    simp at h3
    (repeat (first | refine zI ?_ | refine zL ?_ | refine zC ?_ | refine L_nil ?_ | refine A_seq ?_ | refine zR ?_ | refine zD ?_ | refine zK ?_ | refine zB ?_ | refine zA ?_ | refine zS ?_ | refine zU ?_ | refine zV ?_ | refine zF ?_ | with_reducible refine inblk_n ?_ | with_reducible refine then_n ?_ | refine A_block ?_ | refine A_skip ?_ | refine A_exit ?_ | refine zT ?_ | refine zE ?_ | refine zX ?_))
    refine A_cond rfl (fun h4 => ?_) (fun h4 => ?_)
    · (repeat (first | refine zI ?_ | refine zL ?_ | refine zC ?_ | refine L_nil ?_ | refine A_seq ?_ | refine zR ?_ | refine zD ?_ | refine zK ?_ | refine zB ?_ | refine zA ?_ | refine zS ?_ | refine zU ?_ | refine zV ?_ | refine zF ?_ | with_reducible refine inblk_n ?_ | with_reducible refine then_n ?_ | refine A_block ?_ | refine A_skip ?_ | refine A_exit ?_ | refine zT ?_ | refine zE ?_ | refine zX ?_))
      refine A_ret ?_; refine ⟨_, rfl, ?_⟩
      exact frz_i64 (by unfold bringF; rw [if_neg (by omega), if_neg h3, if_pos h1])
    · simp at h4; omega

/-- What is asked of a program and a graph. -/
structure Fair (p : ProgD) (g : GraphD) : Prop where
  pin : ProgIn p
  light : LightP p
  lg : lightG g = true
theorem Fair.vlen {p : ProgD} {g : GraphD} (h : Fair p g) : p.vars.length ≤ 1000 := h.light.1
theorem Fair.glen {p : ProgD} {g : GraphD} (h : Fair p g) : g.ids.length ≤ 30 ∧ g.ports.length ≤ 30 ∧ ∀ l ∈ g.ports, l.length ≤ 30 := (lightG_iff g).1 h.lg
theorem deg_at {g : GraphD} {v : Int} {ls : List Lk} (hv : g.ports[v.toNat]? = some ls) : degAt g v = ls.length := by
  unfold degAt; rw [List.getD_eq_getElem?_getD, hv]; rfl
theorem var_at {p : ProgD} {x : Int} {y : VarD} (hx : p.vars[x.toNat]? = some y) : varAt p x = y := by
  unfold varAt; rw [List.getD_eq_getElem?_getD, hx]; rfl

theorem ends_con (p : ProgD) (g : GraphD) (v x : Int) (ls : List Lk) (y : VarD) (hy : numB y = true) (hg : validG g = true) (h0 : 0 ≤ v) (hv : g.ports[v.toNat]? = some ls) (hl : ls.length ≤ 1000) (hx0 : 0 ≤ x) (hx : p.vars[x.toNat]? = some y) :
    Con Tryz.prog 42 [encP p, encG g, i64 v, i64 x] (pairA (boundsV y g ls.length)) := by
  have hn := num_facts hy
  have ht := terms_bd hy hg
  have hf := valid_facts hg
  refine con_of Tryz.func42 rfl rfl Tryz.ntmps42 Tryz.results42 rfl rfl ?_
  (repeat (first | refine zI ?_ | refine zL ?_ | refine zC ?_ | refine L_nil ?_ | refine A_seq ?_ | refine zR ?_ | refine zD ?_ | refine zK ?_ | refine zB ?_ | refine zA ?_ | refine zS ?_ | refine zU ?_ | refine zV ?_ | refine zF ?_ | with_reducible refine inblk_n ?_ | with_reducible refine then_n ?_ | refine A_block ?_ | refine A_skip ?_ | refine A_exit ?_ | refine zT ?_ | refine zE ?_ | refine zX ?_))
  refine A_cond rfl (fun h1 => ?_) (fun h1 => ?_)
  · simp at h1
    (repeat (first | refine zI ?_ | refine zL ?_ | refine zC ?_ | refine L_nil ?_ | refine A_seq ?_ | refine zR ?_ | refine zD ?_ | refine zK ?_ | refine zB ?_ | refine zA ?_ | refine zS ?_ | refine zU ?_ | refine zV ?_ | refine zF ?_ | with_reducible refine inblk_n ?_ | with_reducible refine then_n ?_ | refine A_block ?_ | refine A_skip ?_ | refine A_exit ?_ | refine zT ?_ | refine zE ?_ | refine zX ?_))
    refine A_ret ?_; refine ⟨_, rfl, ?_⟩
    unfold boundsV; rw [if_pos h1]; exact Frz.pure
  simp at h1
  (repeat (first | refine zI ?_ | refine zL ?_ | refine zC ?_ | refine L_nil ?_ | refine A_seq ?_ | refine zR ?_ | refine zD ?_ | refine zK ?_ | refine zB ?_ | refine zA ?_ | refine zS ?_ | refine zU ?_ | refine zV ?_ | refine zF ?_ | with_reducible refine inblk_n ?_ | with_reducible refine then_n ?_ | refine A_block ?_ | refine A_skip ?_ | refine A_exit ?_ | refine zT ?_ | refine zE ?_ | refine zX ?_))
  refine A_cond rfl (fun h2 => ?_) (fun h2 => ?_)
  · simp at h2
    (repeat (first | refine zI ?_ | refine zL ?_ | refine zC ?_ | refine L_nil ?_ | refine A_seq ?_ | refine zR ?_ | refine zD ?_ | refine zK ?_ | refine zB ?_ | refine zA ?_ | refine zS ?_ | refine zU ?_ | refine zV ?_ | refine zF ?_ | with_reducible refine inblk_n ?_ | with_reducible refine then_n ?_ | refine A_block ?_ | refine A_skip ?_ | refine A_exit ?_ | refine zT ?_ | refine zE ?_ | refine zX ?_))
    refine A_ret ?_; refine ⟨_, rfl, ?_⟩
    unfold boundsV; rw [if_neg h1, if_pos h2]; exact Frz.pure
  simp at h2
  (repeat (first | refine zI ?_ | refine zL ?_ | refine zC ?_ | refine L_nil ?_ | refine A_seq ?_ | refine zR ?_ | refine zD ?_ | refine zK ?_ | refine zB ?_ | refine zA ?_ | refine zS ?_ | refine zU ?_ | refine zV ?_ | refine zF ?_ | with_reducible refine inblk_n ?_ | with_reducible refine then_n ?_ | refine A_block ?_ | refine A_skip ?_ | refine A_exit ?_ | refine zT ?_ | refine zE ?_ | refine zX ?_ | refine L_call rfl rfl (greatest_con g (by omega)) rfl rfl ?_))
  refine A_ret ?_; refine ⟨_, rfl, ?_⟩
  unfold boundsV; rw [if_neg h1, if_neg h2]; exact Frz.pure

end Go.Proofs.YtenajilnjeafpaaGreat
set_option linter.unusedVariables false
set_option maxRecDepth 100000
set_option maxHeartbeats 8000000
namespace Go.Proofs.YtenajilnjeafpaaGreat
open Go.RowKit

theorem fits_bad {p : ProgD} {g : GraphD} {y : VarD} (h1 : checkF p = 0) (h2 : validG g = true) (hy : y ∈ p.vars) (hb : fitB g y = false) : fitsF p g = 9 := by
  unfold fitsF
  rw [if_pos h1, if_pos h2, if_neg]
  intro h
  rw [List.all_eq_true.1 h y hy] at hb; cases hb
theorem fits_con (p : ProgD) (g : GraphD) (hf : Fair p g) : Con Tryz.prog 37 [encP p, encG g] (i64 (fitsF p g)) := by
  have hgl := hf.glen
  have hvl := hf.vlen
  refine con_of Tryz.func37 rfl rfl Tryz.ntmps37 Tryz.results37 rfl rfl ?_
  (repeat (first | refine zI ?_ | refine zL ?_ | refine zC ?_ | refine L_nil ?_ | refine A_seq ?_ | refine zR ?_ | refine zD ?_ | refine zK ?_ | refine zB ?_ | refine zA ?_ | refine zS ?_ | refine zU ?_ | refine zV ?_ | refine zF ?_ | with_reducible refine inblk_n ?_ | with_reducible refine then_n ?_ | refine A_block ?_ | refine A_skip ?_ | refine A_exit ?_ | refine zT ?_ | refine zE ?_ | refine zX ?_ | refine L_call rfl rfl (tvalid_con p hf.pin hf.light) rfl rfl ?_))
  refine A_cond rfl (fun h1 => ?_) (fun h1 => ?_)
  · simp at h1
    (repeat (first | refine zI ?_ | refine zL ?_ | refine zC ?_ | refine L_nil ?_ | refine A_seq ?_ | refine zR ?_ | refine zD ?_ | refine zK ?_ | refine zB ?_ | refine zA ?_ | refine zS ?_ | refine zU ?_ | refine zV ?_ | refine zF ?_ | with_reducible refine inblk_n ?_ | with_reducible refine then_n ?_ | refine A_block ?_ | refine A_skip ?_ | refine A_exit ?_ | refine zT ?_ | refine zE ?_ | refine zX ?_))
    refine A_ret ?_; refine ⟨_, rfl, ?_⟩
    exact frz_i64 (by unfold fitsF; rw [if_neg h1])
  simp at h1
  (repeat (first | refine zI ?_ | refine zL ?_ | refine zC ?_ | refine L_nil ?_ | refine A_seq ?_ | refine zR ?_ | refine zD ?_ | refine zK ?_ | refine zB ?_ | refine zA ?_ | refine zS ?_ | refine zU ?_ | refine zV ?_ | refine zF ?_ | with_reducible refine inblk_n ?_ | with_reducible refine then_n ?_ | refine A_block ?_ | refine A_skip ?_ | refine A_exit ?_ | refine zT ?_ | refine zE ?_ | refine zX ?_ | refine L_call rfl rfl (gvalid_con g hf.lg) rfl rfl ?_))
  refine A_cond rfl (fun h2 => ?_) (fun h2 => ?_)
  · simp at h2
    (repeat (first | refine zI ?_ | refine zL ?_ | refine zC ?_ | refine L_nil ?_ | refine A_seq ?_ | refine zR ?_ | refine zD ?_ | refine zK ?_ | refine zB ?_ | refine zA ?_ | refine zS ?_ | refine zU ?_ | refine zV ?_ | refine zF ?_ | with_reducible refine inblk_n ?_ | with_reducible refine then_n ?_ | refine A_block ?_ | refine A_skip ?_ | refine A_exit ?_ | refine zT ?_ | refine zE ?_ | refine zX ?_))
    refine A_ret ?_; refine ⟨_, rfl, ?_⟩
    exact frz_i64 (by unfold fitsF; rw [if_pos h1, if_neg (by simp [h2])])
  simp at h2
  have hvf := valid_facts h2
  obtain ⟨ls, hls⟩ := getN (show 0 < g.ports.length by omega)
  have hll := hgl.2.2 ls (List.mem_of_getElem? hls)
  (repeat (first | refine zI ?_ | refine zL ?_ | refine zC ?_ | refine L_nil ?_ | refine A_seq ?_ | refine zR ?_ | refine zD ?_ | refine zK ?_ | refine zB ?_ | refine zA ?_ | refine zS ?_ | refine zU ?_ | refine zV ?_ | refine zF ?_ | with_reducible refine inblk_n ?_ | with_reducible refine then_n ?_ | refine A_block ?_ | refine A_skip ?_ | refine A_exit ?_ | refine zT ?_ | refine zE ?_ | refine zX ?_))
  refine A_inv (α := Nat) (fun k => [(18, i64 k), (17, i64 p.vars.length), (16, .sl 6 (p.vars.map encVar)), (2, .lp 2 0), (3, .lp 3 0)]) (fun k => [(2, some (.cells [strA p.name, .sl 6 (p.vars.map encVar), .sl 3 (p.rules.map encRule)])), (3, some (.cells [encInts g.ids, encPorts g.ports]))]) (fun k => p.vars.length - k) (fun k => k ≤ p.vars.length ∧ ∀ y ∈ p.vars.take k, fitB g y = true) 0 ⟨by omega, by simp⟩ (by (repeat (first | exact subT_nil | refine subT_cons rfl ?_))) (by first | exact subH_nil | exact subH_cons rfl subH_nil | exact subH_cons rfl (subH_cons rfl subH_nil) | exact subH_cons rfl (subH_cons rfl (subH_cons rfl subH_nil)) | exact subH_cons rfl (subH_cons rfl (subH_cons rfl (subH_cons rfl subH_nil)))) ?_
  intro k ⟨hk, hok⟩
  (repeat (first | refine zI ?_ | refine zL ?_ | refine zC ?_ | refine L_nil ?_ | refine A_seq ?_ | refine zR ?_ | refine zD ?_ | refine zK ?_ | refine zB ?_ | refine zA ?_ | refine zS ?_ | refine zU ?_ | refine zV ?_ | refine zF ?_ | with_reducible refine inblk_n ?_ | with_reducible refine then_n ?_ | refine A_block ?_ | refine A_skip ?_ | refine A_exit ?_ | refine zT ?_ | refine zE ?_ | refine zX ?_))
  refine A_cond rfl (fun h => ?_) (fun h => ?_)
  · simp at h
    obtain ⟨y, hy⟩ := getN h
    have hym := List.mem_of_getElem? hy
    have hnum := (check_facts h1).2.2.2 y hym
    have hbd := bounds_bd (deg := (ls.length : Int)) hnum h2 (by omega)
    have hstep : fitB g y = true → ∀ z ∈ p.vars.take (k + 1), fitB g z = true := by
      intro hfy z hz
      rw [take_next hy] at hz
      rcases List.mem_append.1 hz with hz | hz
      · exact hok z hz
      · simp at hz; subst hz; exact hfy
    (repeat (first | refine zI ?_ | refine zL ?_ | refine zC ?_ | refine L_nil ?_ | refine A_seq ?_ | refine zR ?_ | refine zD ?_ | refine zK ?_ | refine zB ?_ | refine zA ?_ | refine zS ?_ | refine zU ?_ | refine zV ?_ | refine zF ?_ | with_reducible refine inblk_n ?_ | with_reducible refine then_n ?_ | refine A_block ?_ | refine A_skip ?_ | refine A_exit ?_ | refine zT ?_ | refine zE ?_ | refine zX ?_))
    refine A_cond rfl (fun h3 => ?_) (fun h3 => ?_)
    · simp at h3
      (repeat (first | refine zI ?_ | refine zL ?_ | refine zC ?_ | refine L_nil ?_ | refine A_seq ?_ | refine zR ?_ | refine zD ?_ | refine zK ?_ | refine zB ?_ | refine zA ?_ | refine zS ?_ | refine zU ?_ | refine zV ?_ | refine zF ?_ | with_reducible refine inblk_n ?_ | with_reducible refine then_n ?_ | refine A_block ?_ | refine A_skip ?_ | refine A_exit ?_ | refine zT ?_ | refine zE ?_ | refine zX ?_))
      refine rnd (k + 1) ⟨by omega, hstep (by simp [fitB, h3])⟩ (by omega) (by (repeat (first | exact subT_nil | refine subT_cons rfl ?_))) (by first | exact subH_nil | exact subH_cons rfl subH_nil | exact subH_cons rfl (subH_cons rfl subH_nil) | exact subH_cons rfl (subH_cons rfl (subH_cons rfl subH_nil)) | exact subH_cons rfl (subH_cons rfl (subH_cons rfl (subH_cons rfl subH_nil))))
    simp at h3
    have hsame : boundsV y g ls.length = boundsV y g 0 := by unfold boundsV; rw [if_neg (by omega), if_neg (by omega), if_neg (by omega), if_neg (by omega)]
    (repeat (first | refine zI ?_ | refine zL ?_ | refine zC ?_ | refine L_nil ?_ | refine A_seq ?_ | refine zR ?_ | refine zD ?_ | refine zK ?_ | refine zB ?_ | refine zA ?_ | refine zS ?_ | refine zU ?_ | refine zV ?_ | refine zF ?_ | with_reducible refine inblk_n ?_ | with_reducible refine then_n ?_ | refine A_block ?_ | refine A_skip ?_ | refine A_exit ?_ | refine zT ?_ | refine zE ?_ | refine zX ?_ | refine L_call rfl rfl (bounds_con y g 0 ls hnum h2 (by omega) hls (by omega)) rfl rfl ?_))
    refine L_split 34 rfl (fun h4 => ?_) (fun h4 => ?_)
    · simp at h4
      (repeat (first | refine zI ?_ | refine zL ?_ | refine zC ?_ | refine L_nil ?_ | refine A_seq ?_ | refine zR ?_ | refine zD ?_ | refine zK ?_ | refine zB ?_ | refine zA ?_ | refine zS ?_ | refine zU ?_ | refine zV ?_ | refine zF ?_ | with_reducible refine inblk_n ?_ | with_reducible refine then_n ?_ | refine A_block ?_ | refine A_skip ?_ | refine A_exit ?_ | refine zT ?_ | refine zE ?_ | refine zX ?_))
      refine A_ret ?_; refine ⟨_, rfl, ?_⟩
      exact frz_i64 (fits_bad h1 h2 hym (by rw [hsame] at h4; simp [fitB, h3]; omega)).symm
    simp at h4
    (repeat (first | refine zI ?_ | refine zL ?_ | refine zC ?_ | refine L_nil ?_ | refine A_seq ?_ | refine zR ?_ | refine zD ?_ | refine zK ?_ | refine zB ?_ | refine zA ?_ | refine zS ?_ | refine zU ?_ | refine zV ?_ | refine zF ?_ | with_reducible refine inblk_n ?_ | with_reducible refine then_n ?_ | refine A_block ?_ | refine A_skip ?_ | refine A_exit ?_ | refine zT ?_ | refine zE ?_ | refine zX ?_))
    refine A_cond rfl (fun h5 => ?_) (fun h5 => ?_)
    · simp at h5
      (repeat (first | refine zI ?_ | refine zL ?_ | refine zC ?_ | refine L_nil ?_ | refine A_seq ?_ | refine zR ?_ | refine zD ?_ | refine zK ?_ | refine zB ?_ | refine zA ?_ | refine zS ?_ | refine zU ?_ | refine zV ?_ | refine zF ?_ | with_reducible refine inblk_n ?_ | with_reducible refine then_n ?_ | refine A_block ?_ | refine A_skip ?_ | refine A_exit ?_ | refine zT ?_ | refine zE ?_ | refine zX ?_))
      refine A_ret ?_; refine ⟨_, rfl, ?_⟩
      exact frz_i64 (fits_bad h1 h2 hym (by rw [hsame] at h5; simp [fitB, h3]; omega)).symm
    · simp at h5
      (repeat (first | refine zI ?_ | refine zL ?_ | refine zC ?_ | refine L_nil ?_ | refine A_seq ?_ | refine zR ?_ | refine zD ?_ | refine zK ?_ | refine zB ?_ | refine zA ?_ | refine zS ?_ | refine zU ?_ | refine zV ?_ | refine zF ?_ | with_reducible refine inblk_n ?_ | with_reducible refine then_n ?_ | refine A_block ?_ | refine A_skip ?_ | refine A_exit ?_ | refine zT ?_ | refine zE ?_ | refine zX ?_))
      refine rnd (k + 1) ⟨by omega, hstep (by rw [hsame] at h4 h5; simp [fitB, h3]; omega)⟩ (by omega) (by (repeat (first | exact subT_nil | refine subT_cons rfl ?_))) (by first | exact subH_nil | exact subH_cons rfl subH_nil | exact subH_cons rfl (subH_cons rfl subH_nil) | exact subH_cons rfl (subH_cons rfl (subH_cons rfl subH_nil)) | exact subH_cons rfl (subH_cons rfl (subH_cons rfl (subH_cons rfl subH_nil))))
  · simp at h
    obtain rfl : k = p.vars.length := by omega
    rw [List.take_length] at hok
    (repeat (first | refine zI ?_ | refine zL ?_ | refine zC ?_ | refine L_nil ?_ | refine A_seq ?_ | refine zR ?_ | refine zD ?_ | refine zK ?_ | refine zB ?_ | refine zA ?_ | refine zS ?_ | refine zU ?_ | refine zV ?_ | refine zF ?_ | with_reducible refine inblk_n ?_ | with_reducible refine then_n ?_ | refine A_block ?_ | refine A_skip ?_ | refine A_exit ?_ | refine zT ?_ | refine zE ?_ | refine zX ?_))
    refine A_ret ?_; refine ⟨_, rfl, ?_⟩
    exact frz_i64 (fits_zero.2 ⟨h1, h2, hok⟩).symm
theorem rfits_con (p : ProgD) (g : GraphD) (hf : Fair p g) : Con Tryz.prog 41 [encP p, encG g] (i64 (fitsF p g)) := by
  have hgl := hf.glen
  have hvl := hf.vlen
  refine con_of Tryz.func41 rfl rfl Tryz.ntmps41 Tryz.results41 rfl rfl ?_
  (repeat (first | refine zI ?_ | refine zL ?_ | refine zC ?_ | refine L_nil ?_ | refine A_seq ?_ | refine zR ?_ | refine zD ?_ | refine zK ?_ | refine zB ?_ | refine zA ?_ | refine zS ?_ | refine zU ?_ | refine zV ?_ | refine zF ?_ | with_reducible refine inblk_n ?_ | with_reducible refine then_n ?_ | refine A_block ?_ | refine A_skip ?_ | refine A_exit ?_ | refine zT ?_ | refine zE ?_ | refine zX ?_ | refine L_call rfl rfl (rtvalid_con p hf.pin hf.light) rfl rfl ?_))
  refine A_cond rfl (fun h1 => ?_) (fun h1 => ?_)
  · simp at h1
    (repeat (first | refine zI ?_ | refine zL ?_ | refine zC ?_ | refine L_nil ?_ | refine A_seq ?_ | refine zR ?_ | refine zD ?_ | refine zK ?_ | refine zB ?_ | refine zA ?_ | refine zS ?_ | refine zU ?_ | refine zV ?_ | refine zF ?_ | with_reducible refine inblk_n ?_ | with_reducible refine then_n ?_ | refine A_block ?_ | refine A_skip ?_ | refine A_exit ?_ | refine zT ?_ | refine zE ?_ | refine zX ?_))
    refine A_ret ?_; refine ⟨_, rfl, ?_⟩
    exact frz_i64 (by unfold fitsF; rw [if_neg h1])
  simp at h1
  (repeat (first | refine zI ?_ | refine zL ?_ | refine zC ?_ | refine L_nil ?_ | refine A_seq ?_ | refine zR ?_ | refine zD ?_ | refine zK ?_ | refine zB ?_ | refine zA ?_ | refine zS ?_ | refine zU ?_ | refine zV ?_ | refine zF ?_ | with_reducible refine inblk_n ?_ | with_reducible refine then_n ?_ | refine A_block ?_ | refine A_skip ?_ | refine A_exit ?_ | refine zT ?_ | refine zE ?_ | refine zX ?_ | refine L_call rfl rfl (rvalid_con g hf.lg) rfl rfl ?_))
  refine A_cond rfl (fun h2 => ?_) (fun h2 => ?_)
  · simp at h2
    (repeat (first | refine zI ?_ | refine zL ?_ | refine zC ?_ | refine L_nil ?_ | refine A_seq ?_ | refine zR ?_ | refine zD ?_ | refine zK ?_ | refine zB ?_ | refine zA ?_ | refine zS ?_ | refine zU ?_ | refine zV ?_ | refine zF ?_ | with_reducible refine inblk_n ?_ | with_reducible refine then_n ?_ | refine A_block ?_ | refine A_skip ?_ | refine A_exit ?_ | refine zT ?_ | refine zE ?_ | refine zX ?_))
    refine A_ret ?_; refine ⟨_, rfl, ?_⟩
    exact frz_i64 (by unfold fitsF; rw [if_pos h1, if_neg (by simp [h2])])
  simp at h2
  have hvf := valid_facts h2
  obtain ⟨ls, hls⟩ := getN (show 0 < g.ports.length by omega)
  have hll := hgl.2.2 ls (List.mem_of_getElem? hls)
  (repeat (first | refine zI ?_ | refine zL ?_ | refine zC ?_ | refine L_nil ?_ | refine A_seq ?_ | refine zR ?_ | refine zD ?_ | refine zK ?_ | refine zB ?_ | refine zA ?_ | refine zS ?_ | refine zU ?_ | refine zV ?_ | refine zF ?_ | with_reducible refine inblk_n ?_ | with_reducible refine then_n ?_ | refine A_block ?_ | refine A_skip ?_ | refine A_exit ?_ | refine zT ?_ | refine zE ?_ | refine zX ?_))
  refine A_inv (α := Nat) (fun k => [(5, i64 k), (2, .lp 2 0), (3, .lp 3 0)]) (fun k => [(2, some (.cells [strA p.name, .sl 6 (p.vars.map encVar), .sl 3 (p.rules.map encRule)])), (3, some (.cells [encInts g.ids, encPorts g.ports]))]) (fun k => p.vars.length - k) (fun k => k ≤ p.vars.length ∧ ∀ y ∈ p.vars.take k, fitB g y = true) 0 ⟨by omega, by simp⟩ (by (repeat (first | exact subT_nil | refine subT_cons rfl ?_))) (by first | exact subH_nil | exact subH_cons rfl subH_nil | exact subH_cons rfl (subH_cons rfl subH_nil) | exact subH_cons rfl (subH_cons rfl (subH_cons rfl subH_nil)) | exact subH_cons rfl (subH_cons rfl (subH_cons rfl (subH_cons rfl subH_nil)))) ?_
  intro k ⟨hk, hok⟩
  (repeat (first | refine zI ?_ | refine zL ?_ | refine zC ?_ | refine L_nil ?_ | refine A_seq ?_ | refine zR ?_ | refine zD ?_ | refine zK ?_ | refine zB ?_ | refine zA ?_ | refine zS ?_ | refine zU ?_ | refine zV ?_ | refine zF ?_ | with_reducible refine inblk_n ?_ | with_reducible refine then_n ?_ | refine A_block ?_ | refine A_skip ?_ | refine A_exit ?_ | refine zT ?_ | refine zE ?_ | refine zX ?_))
  refine A_cond rfl (fun h => ?_) (fun h => ?_)
  · simp at h
    obtain ⟨y, hy⟩ := getN h
    have hym := List.mem_of_getElem? hy
    have hnum := (check_facts h1).2.2.2 y hym
    have hbd := bounds_bd (deg := (ls.length : Int)) hnum h2 (by omega)
    have hstep : fitB g y = true → ∀ z ∈ p.vars.take (k + 1), fitB g z = true := by
      intro hfy z hz
      rw [take_next hy] at hz
      rcases List.mem_append.1 hz with hz | hz
      · exact hok z hz
      · simp at hz; subst hz; exact hfy
    (repeat (first | refine zI ?_ | refine zL ?_ | refine zC ?_ | refine L_nil ?_ | refine A_seq ?_ | refine zR ?_ | refine zD ?_ | refine zK ?_ | refine zB ?_ | refine zA ?_ | refine zS ?_ | refine zU ?_ | refine zV ?_ | refine zF ?_ | with_reducible refine inblk_n ?_ | with_reducible refine then_n ?_ | refine A_block ?_ | refine A_skip ?_ | refine A_exit ?_ | refine zT ?_ | refine zE ?_ | refine zX ?_ | refine L_call rfl rfl (ends_con p g 0 k ls y hnum h2 (by omega) hls (by omega) (by omega) (by simpa using hy)) rfl rfl ?_))
    refine L_split 35 rfl (fun h3 => ?_) (fun h3 => ?_)
    · simp at h3
      have hsame : boundsV y g ls.length = boundsV y g 0 := by unfold boundsV; rw [if_neg (by omega), if_neg (by omega), if_neg (by omega), if_neg (by omega)]
      (repeat (first | refine zI ?_ | refine zL ?_ | refine zC ?_ | refine L_nil ?_ | refine A_seq ?_ | refine zR ?_ | refine zD ?_ | refine zK ?_ | refine zB ?_ | refine zA ?_ | refine zS ?_ | refine zU ?_ | refine zV ?_ | refine zF ?_ | with_reducible refine inblk_n ?_ | with_reducible refine then_n ?_ | refine A_block ?_ | refine A_skip ?_ | refine A_exit ?_ | refine zT ?_ | refine zE ?_ | refine zX ?_ | refine L_call rfl rfl (in_con _ _ _) rfl rfl ?_))
      refine A_cond rfl (fun h4 => ?_) (fun h4 => ?_)
      · simp [inB] at h4
        (repeat (first | refine zI ?_ | refine zL ?_ | refine zC ?_ | refine L_nil ?_ | refine A_seq ?_ | refine zR ?_ | refine zD ?_ | refine zK ?_ | refine zB ?_ | refine zA ?_ | refine zS ?_ | refine zU ?_ | refine zV ?_ | refine zF ?_ | with_reducible refine inblk_n ?_ | with_reducible refine then_n ?_ | refine A_block ?_ | refine A_skip ?_ | refine A_exit ?_ | refine zT ?_ | refine zE ?_ | refine zX ?_))
        refine A_ret ?_; refine ⟨_, rfl, ?_⟩
        exact frz_i64 (fits_bad h1 h2 hym (by rw [hsame] at h4; simp [fitB, h3]; omega)).symm
      · simp [inB] at h4
        (repeat (first | refine zI ?_ | refine zL ?_ | refine zC ?_ | refine L_nil ?_ | refine A_seq ?_ | refine zR ?_ | refine zD ?_ | refine zK ?_ | refine zB ?_ | refine zA ?_ | refine zS ?_ | refine zU ?_ | refine zV ?_ | refine zF ?_ | with_reducible refine inblk_n ?_ | with_reducible refine then_n ?_ | refine A_block ?_ | refine A_skip ?_ | refine A_exit ?_ | refine zT ?_ | refine zE ?_ | refine zX ?_))
        refine rnd (k + 1) ⟨by omega, hstep (by rw [hsame] at h4; simp [fitB, h3]; omega)⟩ (by omega) (by (repeat (first | exact subT_nil | refine subT_cons rfl ?_))) (by first | exact subH_nil | exact subH_cons rfl subH_nil | exact subH_cons rfl (subH_cons rfl subH_nil) | exact subH_cons rfl (subH_cons rfl (subH_cons rfl subH_nil)) | exact subH_cons rfl (subH_cons rfl (subH_cons rfl (subH_cons rfl subH_nil))))
    · simp at h3
      (repeat (first | refine zI ?_ | refine zL ?_ | refine zC ?_ | refine L_nil ?_ | refine A_seq ?_ | refine zR ?_ | refine zD ?_ | refine zK ?_ | refine zB ?_ | refine zA ?_ | refine zS ?_ | refine zU ?_ | refine zV ?_ | refine zF ?_ | with_reducible refine inblk_n ?_ | with_reducible refine then_n ?_ | refine A_block ?_ | refine A_skip ?_ | refine A_exit ?_ | refine zT ?_ | refine zE ?_ | refine zX ?_))
      refine rnd (k + 1) ⟨by omega, hstep (by simp [fitB, h3])⟩ (by omega) (by (repeat (first | exact subT_nil | refine subT_cons rfl ?_))) (by first | exact subH_nil | exact subH_cons rfl subH_nil | exact subH_cons rfl (subH_cons rfl subH_nil) | exact subH_cons rfl (subH_cons rfl (subH_cons rfl subH_nil)) | exact subH_cons rfl (subH_cons rfl (subH_cons rfl (subH_cons rfl subH_nil))))
  · simp at h
    obtain rfl : k = p.vars.length := by omega
    rw [List.take_length] at hok
    (repeat (first | refine zI ?_ | refine zL ?_ | refine zC ?_ | refine L_nil ?_ | refine A_seq ?_ | refine zR ?_ | refine zD ?_ | refine zK ?_ | refine zB ?_ | refine zA ?_ | refine zS ?_ | refine zU ?_ | refine zV ?_ | refine zF ?_ | with_reducible refine inblk_n ?_ | with_reducible refine then_n ?_ | refine A_block ?_ | refine A_skip ?_ | refine A_exit ?_ | refine zT ?_ | refine zE ?_ | refine zX ?_))
    refine A_ret ?_; refine ⟨_, rfl, ?_⟩
    exact frz_i64 (fits_zero.2 ⟨h1, h2, hok⟩).symm

theorem rthere_con (p : ProgD) (g : GraphD) (v x : Int) (hf : Fair p g) : Con Tryz.prog 61 [encP p, encG g, i64 v, i64 x] (boolA (fitsF p g == 0 && there p g v x)) := by
  have hgl := hf.glen
  have hvl := hf.vlen
  refine con_of Tryz.func61 rfl rfl Tryz.ntmps61 Tryz.results61 rfl rfl ?_
  (repeat (first | refine zI ?_ | refine zL ?_ | refine zC ?_ | refine L_nil ?_ | refine A_seq ?_ | refine zR ?_ | refine zD ?_ | refine zK ?_ | refine zB ?_ | refine zA ?_ | refine zS ?_ | refine zU ?_ | refine zV ?_ | refine zF ?_ | with_reducible refine inblk_n ?_ | with_reducible refine then_n ?_ | refine A_block ?_ | refine A_skip ?_ | refine A_exit ?_ | refine zT ?_ | refine zE ?_ | refine zX ?_ | refine L_call rfl rfl (rfits_con p g hf) rfl rfl ?_))
  refine L_split 13 rfl (fun h1 => ?_) (fun h1 => ?_)
  · simp at h1
    (repeat (first | refine zI ?_ | refine zL ?_ | refine zC ?_ | refine L_nil ?_ | refine A_seq ?_ | refine zR ?_ | refine zD ?_ | refine zK ?_ | refine zB ?_ | refine zA ?_ | refine zS ?_ | refine zU ?_ | refine zV ?_ | refine zF ?_ | with_reducible refine inblk_n ?_ | with_reducible refine then_n ?_ | refine A_block ?_ | refine A_skip ?_ | refine A_exit ?_ | refine zT ?_ | refine zE ?_ | refine zX ?_ | refine L_call rfl rfl (in_con _ _ _) rfl rfl ?_))
    refine L_split 21 rfl (fun h2 => ?_) (fun h2 => ?_)
    · simp [inB] at h2
      (repeat (first | refine zI ?_ | refine zL ?_ | refine zC ?_ | refine L_nil ?_ | refine A_seq ?_ | refine zR ?_ | refine zD ?_ | refine zK ?_ | refine zB ?_ | refine zA ?_ | refine zS ?_ | refine zU ?_ | refine zV ?_ | refine zF ?_ | with_reducible refine inblk_n ?_ | with_reducible refine then_n ?_ | refine A_block ?_ | refine A_skip ?_ | refine A_exit ?_ | refine zT ?_ | refine zE ?_ | refine zX ?_ | refine L_call rfl rfl (in_con _ _ _) rfl rfl ?_))
      refine A_ret ?_; refine ⟨_, rfl, ?_⟩
      exact frz_bool (by rw [Bool.eq_iff_iff, Bool.and_eq_true, there_iff, inB_iff]; simp [h1]; omega)
    · simp [inB] at h2
      (repeat (first | refine zI ?_ | refine zL ?_ | refine zC ?_ | refine L_nil ?_ | refine A_seq ?_ | refine zR ?_ | refine zD ?_ | refine zK ?_ | refine zB ?_ | refine zA ?_ | refine zS ?_ | refine zU ?_ | refine zV ?_ | refine zF ?_ | with_reducible refine inblk_n ?_ | with_reducible refine then_n ?_ | refine A_block ?_ | refine A_skip ?_ | refine A_exit ?_ | refine zT ?_ | refine zE ?_ | refine zX ?_))
      refine A_ret ?_; refine ⟨_, rfl, ?_⟩
      exact frz_bool (by rw [eq_comm, ← Bool.not_eq_true, Bool.and_eq_true, there_iff]; omega)
  · simp at h1
    (repeat (first | refine zI ?_ | refine zL ?_ | refine zC ?_ | refine L_nil ?_ | refine A_seq ?_ | refine zR ?_ | refine zD ?_ | refine zK ?_ | refine zB ?_ | refine zA ?_ | refine zS ?_ | refine zU ?_ | refine zV ?_ | refine zF ?_ | with_reducible refine inblk_n ?_ | with_reducible refine then_n ?_ | refine A_block ?_ | refine A_skip ?_ | refine A_exit ?_ | refine zT ?_ | refine zE ?_ | refine zX ?_))
    refine A_ret ?_; refine ⟨_, rfl, ?_⟩
    exact frz_bool (by simp [h1])
theorem rbring_eq {kind lo hi value : Int} (hk : kind = 3 → lo = -1) (h : kind ≠ 3 → lo ≤ hi) : (if hi < (if lo > value then lo else value) then hi else (if lo > value then lo else value)) = bringF kind lo hi value ∨ (kind = 3 ∧ ¬ (lo ≤ value ∧ value ≤ hi)) := by
  unfold bringF
  by_cases h3 : kind = 3
  · by_cases h4 : lo ≤ value ∧ value ≤ hi
    · left; rw [if_pos h4]; split <;> (try split) <;> omega
    · exact .inr ⟨h3, h4⟩
  · have := h h3
    left
    by_cases h4 : lo ≤ value ∧ value ≤ hi
    · rw [if_pos h4]; split <;> (try split) <;> omega
    · rw [if_neg h4, if_neg h3]
      by_cases h5 : value < lo
      · rw [if_pos h5]; split <;> (try split) <;> omega
      · rw [if_neg h5]; split <;> (try split) <;> omega
theorem rbring_con (p : ProgD) (g : GraphD) (v x value : Int) (ls : List Lk) (y : VarD) (hy : numB y = true) (hg : validG g = true) (hfit : fitB g y = true) (h0 : 0 ≤ v) (hv : g.ports[v.toNat]? = some ls) (hl : ls.length ≤ 30) (hx0 : 0 ≤ x) (hx : p.vars[x.toNat]? = some y) :
    Con Tryz.prog 58 [encP p, encG g, i64 v, i64 x, i64 value] (i64 (bringF y.kind (boundsV y g ls.length).1 (boundsV y g ls.length).2 value)) := by
  have hn := num_facts hy
  have hb := fit_bd (deg := (ls.length : Int)) hfit hy (by omega)
  have he := rbring_eq (kind := y.kind) (lo := (boundsV y g ls.length).1) (hi := (boundsV y g ls.length).2) (value := value) (fun h => by unfold boundsV; rw [if_neg (by omega), if_pos h]) (fun h => by rw [if_neg h] at hb; omega)
  refine con_of Tryz.func58 rfl rfl Tryz.ntmps58 Tryz.results58 rfl rfl ?_
  (repeat (first | refine zI ?_ | refine zL ?_ | refine zC ?_ | refine L_nil ?_ | refine A_seq ?_ | refine zR ?_ | refine zD ?_ | refine zK ?_ | refine zB ?_ | refine zA ?_ | refine zS ?_ | refine zU ?_ | refine zV ?_ | refine zF ?_ | with_reducible refine inblk_n ?_ | with_reducible refine then_n ?_ | refine A_block ?_ | refine A_skip ?_ | refine A_exit ?_ | refine zT ?_ | refine zE ?_ | refine zX ?_ | refine L_call rfl rfl (ends_con p g v x ls y hy hg h0 hv (by omega) hx0 hx) rfl rfl ?_))
  refine L_split 28 rfl (fun h1 => ?_) (fun h1 => ?_)
  · simp at h1
    (repeat (first | refine zI ?_ | refine zL ?_ | refine zC ?_ | refine L_nil ?_ | refine A_seq ?_ | refine zR ?_ | refine zD ?_ | refine zK ?_ | refine zB ?_ | refine zA ?_ | refine zS ?_ | refine zU ?_ | refine zV ?_ | refine zF ?_ | with_reducible refine inblk_n ?_ | with_reducible refine then_n ?_ | refine A_block ?_ | refine A_skip ?_ | refine A_exit ?_ | refine zT ?_ | refine zE ?_ | refine zX ?_ | refine L_call rfl rfl (in_con _ _ _) rfl rfl ?_))
    refine A_cond rfl (fun h2 => ?_) (fun h2 => ?_)
    · simp [inB] at h2
      (repeat (first | refine zI ?_ | refine zL ?_ | refine zC ?_ | refine L_nil ?_ | refine A_seq ?_ | refine zR ?_ | refine zD ?_ | refine zK ?_ | refine zB ?_ | refine zA ?_ | refine zS ?_ | refine zU ?_ | refine zV ?_ | refine zF ?_ | with_reducible refine inblk_n ?_ | with_reducible refine then_n ?_ | refine A_block ?_ | refine A_skip ?_ | refine A_exit ?_ | refine zT ?_ | refine zE ?_ | refine zX ?_))
      refine A_ret ?_; refine ⟨_, rfl, ?_⟩
      exact frz_i64 (by unfold bringF; rw [if_neg (by omega), if_pos h1])
    · simp [inB] at h2
      (repeat (first | refine zI ?_ | refine zL ?_ | refine zC ?_ | refine L_nil ?_ | refine A_seq ?_ | refine zR ?_ | refine zD ?_ | refine zK ?_ | refine zB ?_ | refine zA ?_ | refine zS ?_ | refine zU ?_ | refine zV ?_ | refine zF ?_ | with_reducible refine inblk_n ?_ | with_reducible refine then_n ?_ | refine A_block ?_ | refine A_skip ?_ | refine A_exit ?_ | refine zT ?_ | refine zE ?_ | refine zX ?_))
      refine A_ret ?_; refine ⟨_, rfl, ?_⟩
      refine frz_i64 ?_
      rcases he with he | he
      · exact he
      · exact absurd h2 he.2
  · simp at h1
    (repeat (first | refine zI ?_ | refine zL ?_ | refine zC ?_ | refine L_nil ?_ | refine A_seq ?_ | refine zR ?_ | refine zD ?_ | refine zK ?_ | refine zB ?_ | refine zA ?_ | refine zS ?_ | refine zU ?_ | refine zV ?_ | refine zF ?_ | with_reducible refine inblk_n ?_ | with_reducible refine then_n ?_ | refine A_block ?_ | refine A_skip ?_ | refine A_exit ?_ | refine zT ?_ | refine zE ?_ | refine zX ?_))
    refine A_ret ?_; refine ⟨_, rfl, ?_⟩
    refine frz_i64 ?_
    rcases he with he | he
    · exact he
    · exact absurd he.1 h1
theorem rclamp_con (p : ProgD) (g : GraphD) (v x value : Int) (hf : Fair p g) : Con Tryz.prog 34 [encP p, encG g, i64 v, i64 x, i64 value] (i64 (clampF p g v x value)) := by
  have hgl := hf.glen
  refine con_of Tryz.func34 rfl rfl Tryz.ntmps34 Tryz.results34 rfl rfl ?_
  (repeat (first | refine zI ?_ | refine zL ?_ | refine zC ?_ | refine L_nil ?_ | refine A_seq ?_ | refine zR ?_ | refine zD ?_ | refine zK ?_ | refine zB ?_ | refine zA ?_ | refine zS ?_ | refine zU ?_ | refine zV ?_ | refine zF ?_ | with_reducible refine inblk_n ?_ | with_reducible refine then_n ?_ | refine A_block ?_ | refine A_skip ?_ | refine A_exit ?_ | refine zT ?_ | refine zE ?_ | refine zX ?_ | refine L_call rfl rfl (rthere_con p g v x hf) rfl rfl ?_))
  refine A_cond rfl (fun h1 => ?_) (fun h1 => ?_)
  · simp at h1
    (repeat (first | refine zI ?_ | refine zL ?_ | refine zC ?_ | refine L_nil ?_ | refine A_seq ?_ | refine zR ?_ | refine zD ?_ | refine zK ?_ | refine zB ?_ | refine zA ?_ | refine zS ?_ | refine zU ?_ | refine zV ?_ | refine zF ?_ | with_reducible refine inblk_n ?_ | with_reducible refine then_n ?_ | refine A_block ?_ | refine A_skip ?_ | refine A_exit ?_ | refine zT ?_ | refine zE ?_ | refine zX ?_))
    refine A_ret ?_; refine ⟨_, rfl, ?_⟩
    refine frz_i64 ?_
    unfold clampF
    split
    · rename_i h2; rw [if_neg (by rcases h1 with h | h; exact absurd h2 h; simp [h])]
    · rfl
  simp at h1
  obtain ⟨hc, hg, hfit⟩ := fits_zero.1 h1.1
  have hth := (there_iff _ _ _ _).1 h1.2
  obtain ⟨y, hy⟩ := getN (show x.toNat < p.vars.length by omega)
  obtain ⟨ls, hls⟩ := getN (show v.toNat < g.ports.length by omega)
  have hll := hgl.2.2 ls (List.mem_of_getElem? hls)
  have hym := List.mem_of_getElem? hy
  (repeat (first | refine zI ?_ | refine zL ?_ | refine zC ?_ | refine L_nil ?_ | refine A_seq ?_ | refine zR ?_ | refine zD ?_ | refine zK ?_ | refine zB ?_ | refine zA ?_ | refine zS ?_ | refine zU ?_ | refine zV ?_ | refine zF ?_ | with_reducible refine inblk_n ?_ | with_reducible refine then_n ?_ | refine A_block ?_ | refine A_skip ?_ | refine A_exit ?_ | refine zT ?_ | refine zE ?_ | refine zX ?_ | refine L_call rfl rfl (rbring_con p g v x value ls y ((check_facts hc).2.2.2 y hym) hg (hfit y hym) (by omega) hls (by omega) (by omega) hy) rfl rfl ?_))
  refine A_ret ?_; refine ⟨_, rfl, ?_⟩
  refine frz_i64 ?_
  unfold clampF
  rw [if_pos h1.1, if_pos h1.2, var_at hy, deg_at hls]
end Go.Proofs.YtenajilnjeafpaaGreat

set_option linter.unusedVariables false
set_option maxRecDepth 100000
set_option maxHeartbeats 8000000
namespace Go.Proofs.YtenajilnjeafpaaGreat
open Go.RowKit

theorem size_next {p : ProgD} {g : GraphD} {deg : Int} {k : Nat} {y : VarD} (hy : p.vars[k]? = some y) : (p.vars.take (k + 1)).foldl (sizeStep g deg) 1 = sizeStep g deg ((p.vars.take k).foldl (sizeStep g deg) 1) y := by
  rw [take_next hy, List.foldl_append, List.foldl_cons, List.foldl_nil]
theorem size_mul {p : ProgD} {g : GraphD} {deg : Int} (h : fitsF p g = 0) (hd : 0 ≤ deg ∧ deg ≤ 30) (k : Nat) {y : VarD} (hy : y ∈ p.vars) :
    0 ≤ (p.vars.take k).foldl (sizeStep g deg) 1 ∧ (p.vars.take k).foldl (sizeStep g deg) 1 ≤ 1073741824 ∧ 0 ≤ (p.vars.take k).foldl (sizeStep g deg) 1 * ((boundsV y g deg).2 - (boundsV y g deg).1 + 1) ∧ (p.vars.take k).foldl (sizeStep g deg) 1 * ((boundsV y g deg).2 - (boundsV y g deg).1 + 1) ≤ 1073741824 * 4096 := by
  obtain ⟨hc, hg, hfit⟩ := fits_zero.1 h
  have hn := (check_facts hc).2.2.2
  have hs := size_bd (g := g) hd (p.vars.take k) 1 (fun x hx => hn x (List.mem_of_mem_take hx)) (fun x hx => hfit x (List.mem_of_mem_take hx)) (by omega) (by omega)
  have hb := fit_bd (deg := deg) (hfit y hy) (hn y hy) hd
  have hw : 0 ≤ (boundsV y g deg).2 - (boundsV y g deg).1 + 1 := by split at hb <;> omega
  have := mul_bd hs.1 hs.2 hw hb.2
  exact ⟨hs.1, hs.2, this⟩
theorem rsize_con (p : ProgD) (g : GraphD) (v : Int) (hf : Fair p g) : Con Tryz.prog 44 [encP p, encG g, i64 v] (i64 (sizeF p g v)) := by
  have hgl := hf.glen
  have hvl := hf.vlen
  refine con_of Tryz.func44 rfl rfl Tryz.ntmps44 Tryz.results44 rfl rfl ?_
  (repeat (first | refine zI ?_ | refine zL ?_ | refine zC ?_ | refine L_nil ?_ | refine A_seq ?_ | refine zR ?_ | refine zD ?_ | refine zK ?_ | refine zB ?_ | refine zA ?_ | refine zS ?_ | refine zU ?_ | refine zV ?_ | refine zF ?_ | with_reducible refine inblk_n ?_ | with_reducible refine then_n ?_ | refine A_block ?_ | refine A_skip ?_ | refine A_exit ?_ | refine zT ?_ | refine zE ?_ | refine zX ?_ | refine L_call rfl rfl (rthere_con p g v 0 hf) rfl rfl ?_))
  refine A_cond rfl (fun h1 => ?_) (fun h1 => ?_)
  · simp at h1
    (repeat (first | refine zI ?_ | refine zL ?_ | refine zC ?_ | refine L_nil ?_ | refine A_seq ?_ | refine zR ?_ | refine zD ?_ | refine zK ?_ | refine zB ?_ | refine zA ?_ | refine zS ?_ | refine zU ?_ | refine zV ?_ | refine zF ?_ | with_reducible refine inblk_n ?_ | with_reducible refine then_n ?_ | refine A_block ?_ | refine A_skip ?_ | refine A_exit ?_ | refine zT ?_ | refine zE ?_ | refine zX ?_))
    refine A_ret ?_; refine ⟨_, rfl, ?_⟩
    refine frz_i64 ?_
    unfold sizeF
    split
    · rename_i h2
      have := check_facts (fits_zero.1 h2).1
      rw [if_neg]
      intro hv
      rcases h1 with h | h
      · exact absurd h2 h
      · rw [← Bool.not_eq_true, there_iff] at h; omega
    · rfl
  simp at h1
  obtain ⟨h1, hth⟩ := h1
  rw [there_iff] at hth
  obtain ⟨hc, hg, hfit⟩ := fits_zero.1 h1
  have hvf := valid_facts hg
  have hn := (check_facts hc).2.2.2
  obtain ⟨ls, hls⟩ := getN (show v.toNat < g.ports.length by omega)
  have hll := hgl.2.2 ls (List.mem_of_getElem? hls)
  (repeat (first | refine zI ?_ | refine zL ?_ | refine zC ?_ | refine L_nil ?_ | refine A_seq ?_ | refine zR ?_ | refine zD ?_ | refine zK ?_ | refine zB ?_ | refine zA ?_ | refine zS ?_ | refine zU ?_ | refine zV ?_ | refine zF ?_ | with_reducible refine inblk_n ?_ | with_reducible refine then_n ?_ | refine A_block ?_ | refine A_skip ?_ | refine A_exit ?_ | refine zT ?_ | refine zE ?_ | refine zX ?_))
  refine A_inv (α := Nat) (fun k => [(8, i64 k), (7, i64 ((p.vars.take k).foldl (sizeStep g ls.length) 1)), (2, i64 v), (3, .lp 3 0), (4, .lp 4 0)]) (fun k => [(3, some (.cells [strA p.name, .sl 6 (p.vars.map encVar), .sl 3 (p.rules.map encRule)])), (4, some (.cells [encInts g.ids, encPorts g.ports]))]) (fun k => p.vars.length - k) (fun k => k ≤ p.vars.length) 0 (by omega) (by (repeat (first | exact subT_nil | refine subT_cons rfl ?_))) (by first | exact subH_nil | exact subH_cons rfl subH_nil | exact subH_cons rfl (subH_cons rfl subH_nil) | exact subH_cons rfl (subH_cons rfl (subH_cons rfl subH_nil)) | exact subH_cons rfl (subH_cons rfl (subH_cons rfl (subH_cons rfl subH_nil)))) ?_
  intro k hk
  (repeat (first | refine zI ?_ | refine zL ?_ | refine zC ?_ | refine L_nil ?_ | refine A_seq ?_ | refine zR ?_ | refine zD ?_ | refine zK ?_ | refine zB ?_ | refine zA ?_ | refine zS ?_ | refine zU ?_ | refine zV ?_ | refine zF ?_ | with_reducible refine inblk_n ?_ | with_reducible refine then_n ?_ | refine A_block ?_ | refine A_skip ?_ | refine A_exit ?_ | refine zT ?_ | refine zE ?_ | refine zX ?_))
  refine A_cond rfl (fun h => ?_) (fun h => ?_)
  · simp at h
    obtain ⟨y, hy⟩ := getN h
    have hym := List.mem_of_getElem? hy
    have hbd := bounds_bd (deg := (ls.length : Int)) (hn y hym) hg (by omega)
    have hm := size_mul (deg := (ls.length : Int)) h1 (by omega) k hym
    (repeat (first | refine zI ?_ | refine zL ?_ | refine zC ?_ | refine L_nil ?_ | refine A_seq ?_ | refine zR ?_ | refine zD ?_ | refine zK ?_ | refine zB ?_ | refine zA ?_ | refine zS ?_ | refine zU ?_ | refine zV ?_ | refine zF ?_ | with_reducible refine inblk_n ?_ | with_reducible refine then_n ?_ | refine A_block ?_ | refine A_skip ?_ | refine A_exit ?_ | refine zT ?_ | refine zE ?_ | refine zX ?_ | refine L_call rfl rfl (ends_con p g v k ls y (hn y hym) hg (by omega) hls (by omega) (by omega) (by simpa using hy)) rfl rfl ?_))
    refine rnd (k + 1) (by omega) (by omega) ?_ (by first | exact subH_nil | exact subH_cons rfl subH_nil | exact subH_cons rfl (subH_cons rfl subH_nil) | exact subH_cons rfl (subH_cons rfl (subH_cons rfl subH_nil)) | exact subH_cons rfl (subH_cons rfl (subH_cons rfl (subH_cons rfl subH_nil))))
    refine subT_cons rfl (subT_cons ?_ (by (repeat (first | exact subT_nil | refine subT_cons rfl ?_))))
    rw [size_next hy]; rfl
  · simp at h
    obtain rfl : k = p.vars.length := by omega
    (repeat (first | refine zI ?_ | refine zL ?_ | refine zC ?_ | refine L_nil ?_ | refine A_seq ?_ | refine zR ?_ | refine zD ?_ | refine zK ?_ | refine zB ?_ | refine zA ?_ | refine zS ?_ | refine zU ?_ | refine zV ?_ | refine zF ?_ | with_reducible refine inblk_n ?_ | with_reducible refine then_n ?_ | refine A_block ?_ | refine A_skip ?_ | refine A_exit ?_ | refine zT ?_ | refine zE ?_ | refine zX ?_))
    refine A_ret ?_; refine ⟨_, rfl, ?_⟩
    refine frz_i64 ?_
    unfold sizeF
    rw [if_pos h1, if_pos (by omega), deg_at hls, List.take_length]
end Go.Proofs.YtenajilnjeafpaaGreat
set_option linter.unusedVariables false
set_option maxRecDepth 100000
set_option maxHeartbeats 8000000
namespace Go.Proofs.YtenajilnjeafpaaGreat
open Go.RowKit

end Go.Proofs.YtenajilnjeafpaaGreat

set_option linter.unusedVariables false
set_option maxRecDepth 100000
set_option maxHeartbeats 8000000
namespace Go.Proofs.YtenajilnjeafpaaGreat
open Go.RowKit

theorem bring_in {k lo hi a : Int} (h : lo ≤ hi) (h3 : k = 3 → lo = -1) : lo ≤ bringF k lo hi a ∧ bringF k lo hi a ≤ hi := by
  unfold bringF; split
  · omega
  · split
    · omega
    · split <;> omega
theorem bring_id {k lo hi a : Int} (h : lo ≤ a ∧ a ≤ hi) : bringF k lo hi a = a := by unfold bringF; rw [if_pos h]
theorem bounds_three {x : VarD} {g : GraphD} {deg : Int} (h : x.kind = 3) : boundsV x g deg = (-1, deg - 1) := by unfold boundsV; rw [if_neg (by omega), if_pos h]
theorem clamp_at {p : ProgD} {g : GraphD} {v x a : Int} {y : VarD} {ls : List Lk} (h : fitsF p g = 0) (hv : 0 ≤ v ∧ v < g.ports.length) (hx : 0 ≤ x ∧ x < p.vars.length) (hy : p.vars[x.toNat]? = some y) (hls : g.ports[v.toNat]? = some ls) : clampF p g v x a = bringF y.kind (boundsV y g ls.length).1 (boundsV y g ls.length).2 a := by
  unfold clampF
  rw [if_pos h, if_pos ((there_iff _ _ _ _).2 ⟨hv.1, hv.2, hx.1, hx.2⟩), var_at hy, deg_at hls]

end Go.Proofs.YtenajilnjeafpaaGreat
