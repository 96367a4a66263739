/- Part 25 of the texts under MemoryRanks,MemoryChanges,MemoryCarries,MemoryCorruptsNamedNodes,MemoryCarriesToItself: joined, with what it needs alone. -/
import Derived.Test.YtenajilnjeafpaaGreatL19
import Derived.Test.YtenajilnjeafpaaGreatL20
import Derived.Test.YtenajilnjeafpaaGreatL24
set_option linter.unusedVariables false
set_option maxRecDepth 100000
set_option maxHeartbeats 8000000
namespace Go.Proofs.YtenajilnjeafpaaGreat
open Go.RowKit
theorem rcorrupt_con (p : ProgD) (g : GraphD) (c : List (List Int)) (l : List FaultD) (hf : Fair p g) (hc : CfgIn c) (hl : l.length ≤ 1000000) : Con Tryz.prog 30 [encP p, encG g, encC c, encFaults l] (pairC (corruptM p g c l)) := by
  have hvl := hf.vlen
  refine con_of Tryz.func30 rfl rfl Tryz.ntmps30 Tryz.results30 rfl rfl ?_
  (repeat (first | refine zI ?_ | refine zL ?_ | refine zC ?_ | refine L_nil ?_ | refine A_seq ?_ | refine zR ?_ | refine zD ?_ | refine zK ?_ | refine zB ?_ | refine zA ?_ | refine zS ?_ | refine zU ?_ | refine zV ?_ | refine zF ?_ | with_reducible refine inblk_n ?_ | with_reducible refine then_n ?_ | refine A_block ?_ | refine A_skip ?_ | refine A_exit ?_ | refine zT ?_ | refine zE ?_ | refine zX ?_ | refine L_call rfl rfl (rcheck_con p g c hf hc) rfl rfl ?_))
  refine A_cond rfl (fun h => ?_) (fun h => ?_)
  · (repeat (first | refine zI ?_ | refine zL ?_ | refine zC ?_ | refine L_nil ?_ | refine A_seq ?_ | refine zR ?_ | refine zD ?_ | refine zK ?_ | refine zB ?_ | refine zA ?_ | refine zS ?_ | refine zU ?_ | refine zV ?_ | refine zF ?_ | with_reducible refine inblk_n ?_ | with_reducible refine then_n ?_ | refine A_block ?_ | refine A_skip ?_ | refine A_exit ?_ | refine zT ?_ | refine zE ?_ | refine zX ?_))
    refine A_ret ?_; refine ⟨_, rfl, ?_⟩
    have : checkM p g c ≠ 0 := by simpa using h
    rw [corruptM, if_neg this]
    exact Frz.tup2 Frz.nil Frz.pure
  have h0 : checkM p g c = 0 := by simpa using h
  obtain ⟨h1, hin⟩ := check_zero.1 h0
  have ht := table_in hf h1
  have hsh := shape_of hin
  obtain ⟨hcl, hrows⟩ := cfg_rows hf h1 hsh
  rw [corruptM, if_pos h0]
  have hw : ∀ (v : Nat) (r : List (Int × Int)), (tableF p g)[v]? = some r → r.length = p.vars.length := fun v r h => table_row h
  have hbr := tbring_con p g hf h1
  (repeat (first | with_reducible refine then_n ?_ | with_reducible refine inblk_n ?_ | refine A_skip ?_))
  refine A_sub (t' := [(4, .lp 4 0), (5, .lp 5 0), (2, encC c), (3, encFaults l)]) (h' := pgF p g 4 5) ?_ (by (repeat (first | exact subT_nil | refine subT_cons rfl ?_))) (by first | exact subH_nil | exact subH_cons rfl subH_nil | exact subH_cons rfl (subH_cons rfl subH_nil) | exact subH_cons rfl (subH_cons rfl (subH_cons rfl subH_nil)) | exact subH_cons rfl (subH_cons rfl (subH_cons rfl (subH_cons rfl subH_nil))))
  generalize htb : tableF p g = tbl at ht hin hsh hw hbr
  have hcn := hsh.1
  (repeat (first | refine zI ?_ | refine zL ?_ | refine zC ?_ | refine L_nil ?_ | refine A_seq ?_ | refine zR ?_ | refine zD ?_ | refine zK ?_ | refine zB ?_ | refine zA ?_ | refine zS ?_ | refine zU ?_ | refine zV ?_ | refine zF ?_ | with_reducible refine inblk_n ?_ | with_reducible refine then_n ?_ | refine A_block ?_ | refine A_skip ?_ | refine A_exit ?_ | refine zT ?_ | refine zE ?_ | refine zX ?_ | refine L_callO (rcopy_own c hcl hrows) rfl rfl rfl rfl rfl rfl rfl rfl rfl rfl rfl rfl rfl ?_))
  refine A_invS (α := Nat × List (List Int)) (fun a => [(12, i64 a.1), (11, .ls 21 1 c.length), (2, encC c), (3, encFaults l), (4, .lp 4 0), (5, .lp 5 0)]) (fun a => pgF p g 4 5 ++ matH 21 1 (matR a.2) []) (fun a => l.length - a.1) (fun a => a.1 ≤ l.length ∧ Shape tbl a.2 ∧ corL p tbl c (l.take a.1) = some a.2) (0, c) ⟨by simp, hsh, rfl⟩ (by (repeat (first | exact subT_nil | refine subT_cons rfl ?_))) (fun id o h => h) ?_
  rintro ⟨j, d⟩ ⟨hj, hd, hcor⟩
  simp only at hj hd hcor ⊢
  (repeat (first | refine zI ?_ | refine zL ?_ | refine zC ?_ | refine L_nil ?_ | refine A_seq ?_ | refine zR ?_ | refine zD ?_ | refine zK ?_ | refine zB ?_ | refine zA ?_ | refine zS ?_ | refine zU ?_ | refine zV ?_ | refine zF ?_ | with_reducible refine inblk_n ?_ | with_reducible refine then_n ?_ | refine A_block ?_ | refine A_skip ?_ | refine A_exit ?_ | refine zT ?_ | refine zE ?_ | refine zX ?_))
  refine A_cond rfl (fun h3 => ?_) (fun h3 => ?_)
  · simp at h3
    obtain ⟨f, hfj⟩ := getN (show j < l.length by omega)
    have hdl := hd.1
    (repeat (first | refine zI ?_ | refine zL ?_ | refine zC ?_ | refine L_nil ?_ | refine A_seq ?_ | refine zR ?_ | refine zD ?_ | refine zK ?_ | refine zB ?_ | refine zA ?_ | refine zS ?_ | refine zU ?_ | refine zV ?_ | refine zF ?_ | with_reducible refine inblk_n ?_ | with_reducible refine then_n ?_ | refine A_block ?_ | refine A_skip ?_ | refine A_exit ?_ | refine zT ?_ | refine zE ?_ | refine zX ?_ | refine L_call rfl rfl (in_con _ _ _) rfl rfl ?_))
    refine L_split 38 rfl (fun h5 => ?_) (fun h5 => ?_)
    · simp [inB] at h5
      (repeat (first | refine zI ?_ | refine zL ?_ | refine zC ?_ | refine L_nil ?_ | refine A_seq ?_ | refine zR ?_ | refine zD ?_ | refine zK ?_ | refine zB ?_ | refine zA ?_ | refine zS ?_ | refine zU ?_ | refine zV ?_ | refine zF ?_ | with_reducible refine inblk_n ?_ | with_reducible refine then_n ?_ | refine A_block ?_ | refine A_skip ?_ | refine A_exit ?_ | refine zT ?_ | refine zE ?_ | refine zX ?_))
      refine A_ret ?_; refine ⟨_, rfl, ?_⟩
      rw [corL_bad hfj hcor (by simp [faultOk]; omega)]
      exact Frz.tup2 Frz.nil Frz.pure
    simp [inB] at h5
    (repeat (first | refine zI ?_ | refine zL ?_ | refine zC ?_ | refine L_nil ?_ | refine A_seq ?_ | refine zR ?_ | refine zD ?_ | refine zK ?_ | refine zB ?_ | refine zA ?_ | refine zS ?_ | refine zU ?_ | refine zV ?_ | refine zF ?_ | with_reducible refine inblk_n ?_ | with_reducible refine then_n ?_ | refine A_block ?_ | refine A_skip ?_ | refine A_exit ?_ | refine zT ?_ | refine zE ?_ | refine zX ?_ | refine L_call rfl rfl (in_con _ _ _) rfl rfl ?_))
    refine A_cond rfl (fun h8 => ?_) (fun h8 => ?_)
    · simp [inB] at h8
      (repeat (first | refine zI ?_ | refine zL ?_ | refine zC ?_ | refine L_nil ?_ | refine A_seq ?_ | refine zR ?_ | refine zD ?_ | refine zK ?_ | refine zB ?_ | refine zA ?_ | refine zS ?_ | refine zU ?_ | refine zV ?_ | refine zF ?_ | with_reducible refine inblk_n ?_ | with_reducible refine then_n ?_ | refine A_block ?_ | refine A_skip ?_ | refine A_exit ?_ | refine zT ?_ | refine zE ?_ | refine zX ?_))
      refine A_ret ?_; refine ⟨_, rfl, ?_⟩
      rw [corL_bad hfj hcor (by simp [faultOk]; omega)]
      exact Frz.tup2 Frz.nil Frz.pure
    simp [inB] at h8
    have hgood := corL_good hfj hcor (by simp [faultOk]; omega)
    obtain ⟨r, hr⟩ := getN (show f.node.toNat < tbl.length by omega)
    obtain ⟨s, hs, hsl⟩ := hd.2 _ r hr
    have hrl := hw _ r hr
    obtain ⟨b, hb⟩ := getN (show f.var.toNat < r.length by omega)
    have hpart : (matR d)[f.node.toNat]? = some (s.map i64) := by rw [matR_get, hs]; rfl
    have hcO : cellsO (hlook (pgF p g 4 5 ++ matH 21 1 (matR d) []) 21) = some (matC 21 1 0 (matR d) ++ []) := by rw [mat_outer (f := pgF p g 4 5) rfl]; exact cellsO_matO _
    have hcell : (matC 21 1 0 (matR d) ++ [])[f.node.toNat * 1]? = some (.ls (fam 21 f.node.toNat) 1 s.length) := by
      rw [Nat.mul_one, List.append_nil, matC_get, hpart]
      simp only [Option.map_some, List.length_map, Nat.div_one, Nat.zero_add]
    have hrow : hlook (pgF p g 4 5 ++ matH 21 1 (matR d) []) (fam 21 f.node.toNat) = some (.vec (s.map i64)) := mat_row (f := pgF p g 4 5) rfl (by omega) hpart
    (repeat (first | refine zI ?_ | refine zL ?_ | refine zC ?_ | refine L_nil ?_ | refine A_seq ?_ | refine zR ?_ | refine zD ?_ | refine zK ?_ | refine zB ?_ | refine zA ?_ | refine zS ?_ | refine zU ?_ | refine zV ?_ | refine zF ?_ | with_reducible refine inblk_n ?_ | with_reducible refine then_n ?_ | refine A_block ?_ | refine A_skip ?_ | refine A_exit ?_ | refine zT ?_ | refine zE ?_ | refine zX ?_ | refine L_index_ls tok rfl rfl (mat_outer (f := pgF p g 4 5) rfl) rfl (by omega) (by omega) rfl rfl ?_ | refine L_load1 (r := .ls (fam 21 f.node.toNat) 1 s.length) tok rfl rfl rfl hcO hcell rfl rfl ?_ | refine L_index_ls tok rfl rfl hrow rfl (by omega) (by omega) rfl rfl ?_ | refine L_call rfl rfl (hbr f.node f.var f.value (by omega) (by omega) r b hr hb) rfl rfl ?_))
    have hnew : ∀ z, matR (setAt d f.node.toNat f.var.toNat z) = (matR d).set f.node.toNat ((s.map i64).set f.var.toNat (i64 z)) := by
      intro z
      rw [setAt, matR_set, List.map_set, List.getD_eq_getElem?_getD, hs]; rfl
    refine L_storeI (h' := pgF p g 4 5 ++ matH 21 1 (matR (setAt d f.node.toNat f.var.toNat (broughtT p tbl f.node.toNat f.var.toNat f.value))) []) tok rfl rfl rfl rfl rfl hrow (by simp; omega) rfl ?_ rfl rfl ?_
    · rw [Nat.mul_one, hnew]
      exact mat_upd (f := pgF p g 4 5) rfl (by omega) hpart (by simp)
    (repeat (first | refine zI ?_ | refine zL ?_ | refine zC ?_ | refine L_nil ?_ | refine A_seq ?_ | refine zR ?_ | refine zD ?_ | refine zK ?_ | refine zB ?_ | refine zA ?_ | refine zS ?_ | refine zU ?_ | refine zV ?_ | refine zF ?_ | with_reducible refine inblk_n ?_ | with_reducible refine then_n ?_ | refine A_block ?_ | refine A_skip ?_ | refine A_exit ?_ | refine zT ?_ | refine zE ?_ | refine zX ?_))
    refine rndS (j + 1, setAt d f.node.toNat f.var.toNat (broughtT p tbl f.node.toNat f.var.toNat f.value)) ⟨by simp only; omega, shape_set hd _ _ _, hgood⟩ (by simp only; omega) (by (repeat (first | exact subT_nil | refine subT_cons rfl ?_))) (fun id o h => h)
  · simp at h3
    obtain rfl : j = l.length := by omega
    (repeat (first | refine zI ?_ | refine zL ?_ | refine zC ?_ | refine L_nil ?_ | refine A_seq ?_ | refine zR ?_ | refine zD ?_ | refine zK ?_ | refine zB ?_ | refine zA ?_ | refine zS ?_ | refine zU ?_ | refine zV ?_ | refine zF ?_ | with_reducible refine inblk_n ?_ | with_reducible refine then_n ?_ | refine A_block ?_ | refine A_skip ?_ | refine A_exit ?_ | refine zT ?_ | refine zE ?_ | refine zX ?_))
    refine A_ret ?_; refine ⟨_, rfl, ?_⟩
    rw [List.take_length] at hcor
    rw [hcor]
    refine Frz.tup2 ?_ Frz.pure
    exact frz_cfg (f := pgF p g 4 5) (M := 21) (n := c.length) rfl rfl rfl (hsh.1.trans hd.1.symm) rfl
end Go.Proofs.YtenajilnjeafpaaGreat
