/- Part 24 of the texts under MemoryRanks,MemoryChanges,MemoryCarries,MemoryCorruptsNamedNodes,MemoryCarriesToItself: joined, with what it needs alone. -/
import Derived.Test.YtenajilnjeafpaaGreatL18
set_option linter.unusedVariables false
set_option maxRecDepth 100000
set_option maxHeartbeats 8000000
namespace Go.Proofs.YtenajilnjeafpaaGreat
open Go.RowKit
def faultOk (n m : Nat) (f : FaultD) : Bool := decide (0 ≤ f.node) && decide (f.node < n) && (decide (0 ≤ f.var) && decide (f.var < m))
def corL (p : ProgD) (tbl : List (List (Int × Int))) : List (List Int) → List FaultD → Option (List (List Int))
  | d, [] => some d
  | d, f :: l => if faultOk tbl.length p.vars.length f = true then corL p tbl (setAt d f.node.toNat f.var.toNat (broughtT p tbl f.node.toNat f.var.toNat f.value)) l else none
def corruptM (p : ProgD) (g : GraphD) (c : List (List Int)) (l : List FaultD) : List (List Int) × Int :=
  if checkM p g c = 0 then match corL p (tableF p g) c l with
    | some d => (d, 0)
    | none => ([], 2) else ([], checkM p g c)
theorem corL_app (p : ProgD) (tbl : List (List (Int × Int))) : ∀ (d : List (List Int)) (a b : List FaultD), corL p tbl d (a ++ b) = (corL p tbl d a).bind fun d => corL p tbl d b
  | d, [], b => rfl
  | d, f :: a, b => by
    simp only [List.cons_append, corL]
    split
    · exact corL_app p tbl _ a b
    · rfl
theorem corL_bad {p : ProgD} {tbl : List (List (Int × Int))} {c d : List (List Int)} {l : List FaultD} {j : Nat} {f : FaultD} (hf : l[j]? = some f) (h : corL p tbl c (l.take j) = some d) (hb : faultOk tbl.length p.vars.length f = false) : corL p tbl c l = none := by
  rw [← List.take_append_drop j l, corL_app, h, Option.bind_some, drop_getM hf, corL, if_neg (by simp [hb])]
theorem corL_good {p : ProgD} {tbl : List (List (Int × Int))} {c d : List (List Int)} {l : List FaultD} {j : Nat} {f : FaultD} (hf : l[j]? = some f) (h : corL p tbl c (l.take j) = some d) (hb : faultOk tbl.length p.vars.length f = true) : corL p tbl c (l.take (j + 1)) = some (setAt d f.node.toNat f.var.toNat (broughtT p tbl f.node.toNat f.var.toNat f.value)) := by
  rw [take_snocM hf, corL_app, h, Option.bind_some, corL, if_pos hb]; rfl
theorem mcorrupt_con (p : ProgD) (g : GraphD) (c : List (List Int)) (l : List FaultD) (hf : Fair p g) (hc : CfgIn c) (hl : l.length ≤ 1000000) : Con Tryz.prog 29 [encP p, encG g, encC c, encFaults l] (pairC (corruptM p g c l)) := by
  have hvl := hf.vlen
  refine con_of Tryz.func29 rfl rfl Tryz.ntmps29 Tryz.results29 rfl rfl ?_
  (repeat (first | refine zI ?_ | refine zL ?_ | refine zC ?_ | refine L_nil ?_ | refine A_seq ?_ | refine zR ?_ | refine zD ?_ | refine zK ?_ | refine zB ?_ | refine zA ?_ | refine zS ?_ | refine zU ?_ | refine zV ?_ | refine zF ?_ | with_reducible refine inblk_n ?_ | with_reducible refine then_n ?_ | refine A_block ?_ | refine A_skip ?_ | refine A_exit ?_ | refine zT ?_ | refine zE ?_ | refine zX ?_ | refine L_call rfl rfl (mcheck_con p g c hf hc) rfl rfl ?_))
  refine A_cond rfl (fun h => ?_) (fun h => ?_)
  · (repeat (first | refine zI ?_ | refine zL ?_ | refine zC ?_ | refine L_nil ?_ | refine A_seq ?_ | refine zR ?_ | refine zD ?_ | refine zK ?_ | refine zB ?_ | refine zA ?_ | refine zS ?_ | refine zU ?_ | refine zV ?_ | refine zF ?_ | with_reducible refine inblk_n ?_ | with_reducible refine then_n ?_ | refine A_block ?_ | refine A_skip ?_ | refine A_exit ?_ | refine zT ?_ | refine zE ?_ | refine zX ?_))
    refine A_ret ?_; refine ⟨_, rfl, ?_⟩
    have : checkM p g c ≠ 0 := by simpa using h
    rw [corruptM, if_neg this]
    exact Frz.tup2 Frz.nil Frz.pure
  have h0 : checkM p g c = 0 := by simpa using h
  obtain ⟨h1, hin⟩ := check_zero.1 h0
  have ht := table_in hf h1
  have hsh := shape_of hin
  have hrows : ∀ r ∈ c, r.length ≤ 1000 := by
    intro r hr
    obtain ⟨v, hv⟩ := List.getElem?_of_mem hr
    obtain ⟨b, hb⟩ := getN (show v < (tableF p g).length by rw [← hsh.1]; exact (List.getElem?_eq_some_iff.1 hv).1)
    obtain ⟨s, hs, e⟩ := hsh.2 v b hb
    rw [hv] at hs
    cases hs
    rw [e]
    exact (ht.2 b (List.mem_of_getElem? hb)).1
  have hcl : c.length ≤ 1000 := by rw [hsh.1]; exact ht.1
  rw [corruptM, if_pos h0]
  have hw : ∀ (v : Nat) (r : List (Int × Int)), (tableF p g)[v]? = some r → r.length = p.vars.length := fun v r h => table_row h
  (repeat (first | with_reducible refine then_n ?_ | with_reducible refine inblk_n ?_ | refine A_skip ?_)); refine A_seq ?_; refine A_region (lf := lfT) rfl ?_
  (repeat (first | refine zI ?_ | refine zL ?_ | refine zC ?_ | refine zK ?_ | refine zB ?_ | refine zA ?_ | refine zS ?_ | refine zU ?_ | refine zV ?_ | refine zF ?_ | refine zX ?_ | refine L_nil ?_ | refine L_call rfl rfl (table_con p g hf h1) rfl rfl ?_))
  (repeat (first | with_reducible refine then_n ?_ | with_reducible refine inblk_n ?_ | refine A_skip ?_))
  refine A_sub (t' := [(11, encTab (tableF p g)), (4, .lp 4 0), (2, encC c), (3, encFaults l)]) (h' := [(4, some (.cells [strA p.name, .sl 6 (p.vars.map encVar), .sl 3 (p.rules.map encRule)]))]) ?_ (by (repeat (first | exact subT_nil | refine subT_cons rfl ?_))) (by first | exact subH_nil | exact subH_cons rfl subH_nil | exact subH_cons rfl (subH_cons rfl subH_nil) | exact subH_cons rfl (subH_cons rfl (subH_cons rfl subH_nil)) | exact subH_cons rfl (subH_cons rfl (subH_cons rfl (subH_cons rfl subH_nil))))
  generalize htb : tableF p g = tbl at ht hin hsh hw
  (repeat (first | refine zI ?_ | refine zL ?_ | refine zC ?_ | refine L_nil ?_ | refine A_seq ?_ | refine zR ?_ | refine zD ?_ | refine zK ?_ | refine zB ?_ | refine zA ?_ | refine zS ?_ | refine zU ?_ | refine zV ?_ | refine zF ?_ | with_reducible refine inblk_n ?_ | with_reducible refine then_n ?_ | refine A_block ?_ | refine A_skip ?_ | refine A_exit ?_ | refine zT ?_ | refine zE ?_ | refine zX ?_ | refine L_callO (copy_con c hcl hrows) rfl rfl rfl rfl rfl rfl rfl rfl rfl rfl rfl rfl rfl ?_))
  have hcn := hsh.1
  refine A_invS (α := Nat × List (List Int)) (fun a => [(29, i64 a.1), (28, i64 l.length), (27, encFaults l), (12, .ls 26 1 c.length), (11, encTab tbl), (4, .lp 4 0)]) (fun a => [(4, some (.cells [strA p.name, .sl 6 (p.vars.map encVar), .sl 3 (p.rules.map encRule)]))] ++ matH 26 1 (matR a.2) []) (fun a => l.length - a.1) (fun a => a.1 ≤ l.length ∧ Shape tbl a.2 ∧ corL p tbl c (l.take a.1) = some a.2) (0, c) ⟨by simp, hsh, rfl⟩ (by (repeat (first | exact subT_nil | refine subT_cons rfl ?_))) (fun id o h => h) ?_
  rintro ⟨j, d⟩ ⟨hj, hd, hcor⟩
  simp only at hj hd hcor ⊢
  (repeat (first | refine zI ?_ | refine zL ?_ | refine zC ?_ | refine L_nil ?_ | refine A_seq ?_ | refine zR ?_ | refine zD ?_ | refine zK ?_ | refine zB ?_ | refine zA ?_ | refine zS ?_ | refine zU ?_ | refine zV ?_ | refine zF ?_ | with_reducible refine inblk_n ?_ | with_reducible refine then_n ?_ | refine A_block ?_ | refine A_skip ?_ | refine A_exit ?_ | refine zT ?_ | refine zE ?_ | refine zX ?_))
  refine A_cond rfl (fun h3 => ?_) (fun h3 => ?_)
  · simp at h3
    obtain ⟨f, hfj⟩ := getN (show j < l.length by omega)
    have hdl := hd.1
    (repeat (first | refine zI ?_ | refine zL ?_ | refine zC ?_ | refine L_nil ?_ | refine A_seq ?_ | refine zR ?_ | refine zD ?_ | refine zK ?_ | refine zB ?_ | refine zA ?_ | refine zS ?_ | refine zU ?_ | refine zV ?_ | refine zF ?_ | with_reducible refine inblk_n ?_ | with_reducible refine then_n ?_ | refine A_block ?_ | refine A_skip ?_ | refine A_exit ?_ | refine zT ?_ | refine zE ?_ | refine zX ?_ | refine L_alloc tok rfl rfl rfl (freshM (f := [(4, some (.cells [strA p.name, .sl 6 (p.vars.map encVar), .sl 3 (p.rules.map encRule)]))]) rfl rfl rfl rfl) rfl rfl rfl ?_))
    refine L_split 36 rfl (fun h5 => ?_) (fun h5 => ?_)
    · simp at h5
      (repeat (first | refine zI ?_ | refine zL ?_ | refine zC ?_ | refine L_nil ?_ | refine A_seq ?_ | refine zR ?_ | refine zD ?_ | refine zK ?_ | refine zB ?_ | refine zA ?_ | refine zS ?_ | refine zU ?_ | refine zV ?_ | refine zF ?_ | with_reducible refine inblk_n ?_ | with_reducible refine then_n ?_ | refine A_block ?_ | refine A_skip ?_ | refine A_exit ?_ | refine zT ?_ | refine zE ?_ | refine zX ?_))
      refine A_ret ?_; refine ⟨_, rfl, ?_⟩
      rw [corL_bad hfj hcor (by simp [faultOk]; omega)]
      exact Frz.tup2 Frz.nil Frz.pure
    simp at h5
    (repeat (first | refine zI ?_ | refine zL ?_ | refine zC ?_ | refine L_nil ?_ | refine A_seq ?_ | refine zR ?_ | refine zD ?_ | refine zK ?_ | refine zB ?_ | refine zA ?_ | refine zS ?_ | refine zU ?_ | refine zV ?_ | refine zF ?_ | with_reducible refine inblk_n ?_ | with_reducible refine then_n ?_ | refine A_block ?_ | refine A_skip ?_ | refine A_exit ?_ | refine zT ?_ | refine zE ?_ | refine zX ?_))
    refine L_split 43 rfl (fun h6 => ?_) (fun h6 => ?_)
    · simp at h6
      (repeat (first | refine zI ?_ | refine zL ?_ | refine zC ?_ | refine L_nil ?_ | refine A_seq ?_ | refine zR ?_ | refine zD ?_ | refine zK ?_ | refine zB ?_ | refine zA ?_ | refine zS ?_ | refine zU ?_ | refine zV ?_ | refine zF ?_ | with_reducible refine inblk_n ?_ | with_reducible refine then_n ?_ | refine A_block ?_ | refine A_skip ?_ | refine A_exit ?_ | refine zT ?_ | refine zE ?_ | refine zX ?_))
      refine A_ret ?_; refine ⟨_, rfl, ?_⟩
      rw [corL_bad hfj hcor (by simp [faultOk]; omega)]
      exact Frz.tup2 Frz.nil Frz.pure
    simp at h6
    (repeat (first | refine zI ?_ | refine zL ?_ | refine zC ?_ | refine L_nil ?_ | refine A_seq ?_ | refine zR ?_ | refine zD ?_ | refine zK ?_ | refine zB ?_ | refine zA ?_ | refine zS ?_ | refine zU ?_ | refine zV ?_ | refine zF ?_ | with_reducible refine inblk_n ?_ | with_reducible refine then_n ?_ | refine A_block ?_ | refine A_skip ?_ | refine A_exit ?_ | refine zT ?_ | refine zE ?_ | refine zX ?_))
    refine L_split 48 rfl (fun h7 => ?_) (fun h7 => ?_)
    · simp at h7
      (repeat (first | refine zI ?_ | refine zL ?_ | refine zC ?_ | refine L_nil ?_ | refine A_seq ?_ | refine zR ?_ | refine zD ?_ | refine zK ?_ | refine zB ?_ | refine zA ?_ | refine zS ?_ | refine zU ?_ | refine zV ?_ | refine zF ?_ | with_reducible refine inblk_n ?_ | with_reducible refine then_n ?_ | refine A_block ?_ | refine A_skip ?_ | refine A_exit ?_ | refine zT ?_ | refine zE ?_ | refine zX ?_))
      refine A_ret ?_; refine ⟨_, rfl, ?_⟩
      rw [corL_bad hfj hcor (by simp [faultOk]; omega)]
      exact Frz.tup2 Frz.nil Frz.pure
    simp at h7
    (repeat (first | refine zI ?_ | refine zL ?_ | refine zC ?_ | refine L_nil ?_ | refine A_seq ?_ | refine zR ?_ | refine zD ?_ | refine zK ?_ | refine zB ?_ | refine zA ?_ | refine zS ?_ | refine zU ?_ | refine zV ?_ | refine zF ?_ | with_reducible refine inblk_n ?_ | with_reducible refine then_n ?_ | refine A_block ?_ | refine A_skip ?_ | refine A_exit ?_ | refine zT ?_ | refine zE ?_ | refine zX ?_))
    refine A_cond rfl (fun h8 => ?_) (fun h8 => ?_)
    · simp at h8
      (repeat (first | refine zI ?_ | refine zL ?_ | refine zC ?_ | refine L_nil ?_ | refine A_seq ?_ | refine zR ?_ | refine zD ?_ | refine zK ?_ | refine zB ?_ | refine zA ?_ | refine zS ?_ | refine zU ?_ | refine zV ?_ | refine zF ?_ | with_reducible refine inblk_n ?_ | with_reducible refine then_n ?_ | refine A_block ?_ | refine A_skip ?_ | refine A_exit ?_ | refine zT ?_ | refine zE ?_ | refine zX ?_))
      refine A_ret ?_; refine ⟨_, rfl, ?_⟩
      rw [corL_bad hfj hcor (by simp [faultOk]; omega)]
      exact Frz.tup2 Frz.nil Frz.pure
    simp at h8
    have hgood := corL_good hfj hcor (by simp [faultOk]; omega)
    obtain ⟨r, hr⟩ := getN (show f.node.toNat < tbl.length by omega)
    obtain ⟨s, hs, hsl⟩ := hd.2 _ r hr
    have hrl := hw _ r hr
    obtain ⟨y, hy⟩ := getN (show f.var.toNat < p.vars.length by omega)
    obtain ⟨b, hb⟩ := getN (show f.var.toNat < r.length by omega)
    have hpart : (matR d)[f.node.toNat]? = some (s.map i64) := by rw [matR_get, hs]; rfl
    have hcO : cellsO (hlook ([(14, some (LObj.cells (encFault f))), (4, some (LObj.cells [strA p.name, .sl 6 (p.vars.map encVar), .sl 3 (p.rules.map encRule)]))] ++ matH 26 1 (matR d) []) 26) = some (matC 26 1 0 (matR d) ++ []) := by rw [mat_outer (f := [(14, some (LObj.cells (encFault f))), (4, some (LObj.cells [strA p.name, .sl 6 (p.vars.map encVar), .sl 3 (p.rules.map encRule)]))]) rfl]; exact cellsO_matO _
    have hcell : (matC 26 1 0 (matR d) ++ [])[f.node.toNat * 1]? = some (.ls (fam 26 f.node.toNat) 1 s.length) := by
      rw [Nat.mul_one, List.append_nil, matC_get, hpart]
      simp only [Option.map_some, List.length_map, Nat.div_one, Nat.zero_add]
    have hrow : hlook ([(14, some (LObj.cells (encFault f))), (4, some (LObj.cells [strA p.name, .sl 6 (p.vars.map encVar), .sl 3 (p.rules.map encRule)]))] ++ matH 26 1 (matR d) []) (fam 26 f.node.toNat) = some (.vec (s.map i64)) := mat_row (f := [(14, some (LObj.cells (encFault f))), (4, some (LObj.cells [strA p.name, .sl 6 (p.vars.map encVar), .sl 3 (p.rules.map encRule)]))]) rfl (by omega) hpart
    refine A_subS (t' := [(14, .lp 14 0), (29, i64 j), (28, i64 l.length), (27, encFaults l), (12, .ls 26 1 c.length), (11, encTab tbl), (4, .lp 4 0)]) (h' := [(14, some (LObj.cells (encFault f))), (4, some (LObj.cells [strA p.name, .sl 6 (p.vars.map encVar), .sl 3 (p.rules.map encRule)]))] ++ matH 26 1 (matR d) []) ?_ (by (repeat (first | exact subT_nil | refine subT_cons rfl ?_))) (hsM (f := [(14, some (LObj.cells (encFault f))), (14, _), (4, some (LObj.cells [strA p.name, .sl 6 (p.vars.map encVar), .sl 3 (p.rules.map encRule)]))]) (f' := [(14, some (LObj.cells (encFault f))), (4, some (LObj.cells [strA p.name, .sl 6 (p.vars.map encVar), .sl 3 (p.rules.map encRule)]))]) (by first | exact subH_nil | exact subH_cons rfl subH_nil | exact subH_cons rfl (subH_cons rfl subH_nil) | exact subH_cons rfl (subH_cons rfl (subH_cons rfl subH_nil)) | exact subH_cons rfl (subH_cons rfl (subH_cons rfl (subH_cons rfl subH_nil)))) rfl rfl rfl)
    (repeat (first | refine zI ?_ | refine zL ?_ | refine zC ?_ | refine L_nil ?_ | refine A_seq ?_ | refine zR ?_ | refine zD ?_ | refine zK ?_ | refine zB ?_ | refine zA ?_ | refine zS ?_ | refine zU ?_ | refine zV ?_ | refine zF ?_ | with_reducible refine inblk_n ?_ | with_reducible refine then_n ?_ | refine A_block ?_ | refine A_skip ?_ | refine A_exit ?_ | refine zT ?_ | refine zE ?_ | refine zX ?_ | refine L_index_ls tok rfl rfl (mat_outer (f := [(14, some (LObj.cells (encFault f))), (4, some (LObj.cells [strA p.name, .sl 6 (p.vars.map encVar), .sl 3 (p.rules.map encRule)]))]) rfl) rfl (by omega) (by omega) rfl rfl ?_ | refine L_load1 (r := .ls (fam 26 f.node.toNat) 1 s.length) tok rfl rfl rfl hcO hcell rfl rfl ?_ | refine L_index_ls tok rfl rfl hrow rfl (by omega) (by omega) rfl rfl ?_ | refine L_call rfl rfl (bring_con _ _ _ _) rfl rfl ?_))
    have hbr : broughtT p tbl f.node.toNat f.var.toNat f.value = bringF y.kind b.1 b.2 f.value := by
      simp only [broughtT, List.getD_eq_getElem?_getD, hy, hr, Option.getD_some, hb]
    rw [hbr] at hgood
    have hnew : matR (setAt d f.node.toNat f.var.toNat (bringF y.kind b.1 b.2 f.value)) = (matR d).set f.node.toNat ((s.map i64).set f.var.toNat (i64 (bringF y.kind b.1 b.2 f.value))) := by
      rw [setAt, matR_set, List.map_set, List.getD_eq_getElem?_getD, hs]; rfl
    refine L_storeI (h' := [(14, some (LObj.cells (encFault f))), (4, some (LObj.cells [strA p.name, .sl 6 (p.vars.map encVar), .sl 3 (p.rules.map encRule)]))] ++ matH 26 1 (matR (setAt d f.node.toNat f.var.toNat (bringF y.kind b.1 b.2 f.value))) []) tok rfl rfl rfl rfl rfl hrow (by simp; omega) rfl ?_ rfl rfl ?_
    · rw [Nat.mul_one, hnew]
      exact mat_upd (f := [(14, some (LObj.cells (encFault f))), (4, some (LObj.cells [strA p.name, .sl 6 (p.vars.map encVar), .sl 3 (p.rules.map encRule)]))]) rfl (by omega) hpart (by simp)
    (repeat (first | refine zI ?_ | refine zL ?_ | refine zC ?_ | refine L_nil ?_ | refine A_seq ?_ | refine zR ?_ | refine zD ?_ | refine zK ?_ | refine zB ?_ | refine zA ?_ | refine zS ?_ | refine zU ?_ | refine zV ?_ | refine zF ?_ | with_reducible refine inblk_n ?_ | with_reducible refine then_n ?_ | refine A_block ?_ | refine A_skip ?_ | refine A_exit ?_ | refine zT ?_ | refine zE ?_ | refine zX ?_))
    refine rndS (j + 1, setAt d f.node.toNat f.var.toNat (bringF y.kind b.1 b.2 f.value)) ⟨by simp only; omega, shape_set hd _ _ _, hgood⟩ (by simp only; omega) (by (repeat (first | exact subT_nil | refine subT_cons rfl ?_))) (hsM (f := [(14, some (LObj.cells (encFault f))), (4, some (LObj.cells [strA p.name, .sl 6 (p.vars.map encVar), .sl 3 (p.rules.map encRule)]))]) (by first | exact subH_nil | exact subH_cons rfl subH_nil | exact subH_cons rfl (subH_cons rfl subH_nil) | exact subH_cons rfl (subH_cons rfl (subH_cons rfl subH_nil)) | exact subH_cons rfl (subH_cons rfl (subH_cons rfl (subH_cons rfl subH_nil)))) rfl rfl rfl)
  · simp at h3
    obtain rfl : j = l.length := by omega
    (repeat (first | refine zI ?_ | refine zL ?_ | refine zC ?_ | refine L_nil ?_ | refine A_seq ?_ | refine zR ?_ | refine zD ?_ | refine zK ?_ | refine zB ?_ | refine zA ?_ | refine zS ?_ | refine zU ?_ | refine zV ?_ | refine zF ?_ | with_reducible refine inblk_n ?_ | with_reducible refine then_n ?_ | refine A_block ?_ | refine A_skip ?_ | refine A_exit ?_ | refine zT ?_ | refine zE ?_ | refine zX ?_))
    refine A_ret ?_; refine ⟨_, rfl, ?_⟩
    rw [List.take_length] at hcor
    rw [hcor]
    refine Frz.tup2 ?_ Frz.pure
    exact frz_cfg (f := [(4, some (.cells [strA p.name, .sl 6 (p.vars.map encVar), .sl 3 (p.rules.map encRule)]))]) (M := 26) (n := c.length) rfl rfl rfl (hsh.1.trans hd.1.symm) rfl
end Go.Proofs.YtenajilnjeafpaaGreat
