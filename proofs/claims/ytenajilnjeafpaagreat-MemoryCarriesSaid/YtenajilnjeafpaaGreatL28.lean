/- Part 28 of the texts under MemoryRanks,MemoryChanges,MemoryCarries,MemoryCorruptsNamedNodes,MemoryCarriesToItself: joined, with what it needs alone. -/
import Derived.Test.YtenajilnjeafpaaGreatL15
import Derived.Test.YtenajilnjeafpaaGreatL18
import Derived.Test.YtenajilnjeafpaaGreatL19
import Derived.Test.YtenajilnjeafpaaGreatL20
set_option linter.unusedVariables false
set_option maxRecDepth 100000
set_option maxHeartbeats 8000000
namespace Go.Proofs.YtenajilnjeafpaaGreat
open Go.RowKit
theorem portto_con (g : GraphD) (v : Int) (u : Int) (ls : List Lk) (h0 : 0 ≤ v) (hv : g.ports[v.toNat]? = some ls) (hlen : ls.length ≤ 5000) : Con Tryz.prog 55 [encG g, i64 v, i64 u] (i64 (portTo ls u)) := by
  refine con_of Tryz.func55 rfl rfl Tryz.ntmps55 Tryz.results55 rfl rfl ?_
  (repeat (first | refine zI ?_ | refine zL ?_ | refine zC ?_ | refine L_nil ?_ | refine A_seq ?_ | refine zR ?_ | refine zD ?_ | refine zK ?_ | refine zB ?_ | refine zA ?_ | refine zS ?_ | refine zU ?_ | refine zV ?_ | refine zF ?_ | with_reducible refine inblk_n ?_ | with_reducible refine then_n ?_ | refine A_block ?_ | refine A_skip ?_ | refine A_exit ?_ | refine zT ?_ | refine zE ?_ | refine zX ?_))
  refine A_inv (α := Nat) (fun k => [(15, i64 k), (14, i64 ls.length), (13, encLinks ls), (2, i64 u)]) (fun k => []) (fun k => ls.length - k) (fun k => k ≤ ls.length ∧ ∀ (j : Nat) (y : Lk), j < k → ls[j]? = some y → y.1 ≠ u) 0 ⟨by omega, by omega⟩ (by (repeat (first | exact subT_nil | refine subT_cons rfl ?_))) (by first | exact subH_nil | exact subH_cons rfl subH_nil | exact subH_cons rfl (subH_cons rfl subH_nil) | exact subH_cons rfl (subH_cons rfl (subH_cons rfl subH_nil)) | exact subH_cons rfl (subH_cons rfl (subH_cons rfl (subH_cons rfl subH_nil)))) ?_
  intro k ⟨hk, hok⟩
  (repeat (first | refine zI ?_ | refine zL ?_ | refine zC ?_ | refine L_nil ?_ | refine A_seq ?_ | refine zR ?_ | refine zD ?_ | refine zK ?_ | refine zB ?_ | refine zA ?_ | refine zS ?_ | refine zU ?_ | refine zV ?_ | refine zF ?_ | with_reducible refine inblk_n ?_ | with_reducible refine then_n ?_ | refine A_block ?_ | refine A_skip ?_ | refine A_exit ?_ | refine zT ?_ | refine zE ?_ | refine zX ?_))
  refine A_cond rfl (fun h => ?_) (fun h => ?_)
  · simp at h
    obtain ⟨x, hx⟩ := getN h
    (repeat (first | refine zI ?_ | refine zL ?_ | refine zC ?_ | refine L_nil ?_ | refine A_seq ?_ | refine zR ?_ | refine zD ?_ | refine zK ?_ | refine zB ?_ | refine zA ?_ | refine zS ?_ | refine zU ?_ | refine zV ?_ | refine zF ?_ | with_reducible refine inblk_n ?_ | with_reducible refine then_n ?_ | refine A_block ?_ | refine A_skip ?_ | refine A_exit ?_ | refine zT ?_ | refine zE ?_ | refine zX ?_))
    refine A_cond rfl (fun h1 => ?_) (fun h1 => ?_)
    · simp at h1
      (repeat (first | refine zI ?_ | refine zL ?_ | refine zC ?_ | refine L_nil ?_ | refine A_seq ?_ | refine zR ?_ | refine zD ?_ | refine zK ?_ | refine zB ?_ | refine zA ?_ | refine zS ?_ | refine zU ?_ | refine zV ?_ | refine zF ?_ | with_reducible refine inblk_n ?_ | with_reducible refine then_n ?_ | refine A_block ?_ | refine A_skip ?_ | refine A_exit ?_ | refine zT ?_ | refine zE ?_ | refine zX ?_))
      refine A_ret ?_; refine ⟨_, rfl, ?_⟩
      exact frz_i64 (portTo_some hx h1 hok).symm
    · simp at h1
      (repeat (first | refine zI ?_ | refine zL ?_ | refine zC ?_ | refine L_nil ?_ | refine A_seq ?_ | refine zR ?_ | refine zD ?_ | refine zK ?_ | refine zB ?_ | refine zA ?_ | refine zS ?_ | refine zU ?_ | refine zV ?_ | refine zF ?_ | with_reducible refine inblk_n ?_ | with_reducible refine then_n ?_ | refine A_block ?_ | refine A_skip ?_ | refine A_exit ?_ | refine zT ?_ | refine zE ?_ | refine zX ?_))
      refine rnd (k + 1) ⟨by omega, fun j y hj hy => ?_⟩ (by omega) (by (repeat (first | exact subT_nil | refine subT_cons rfl ?_))) (by first | exact subH_nil | exact subH_cons rfl subH_nil | exact subH_cons rfl (subH_cons rfl subH_nil) | exact subH_cons rfl (subH_cons rfl (subH_cons rfl subH_nil)) | exact subH_cons rfl (subH_cons rfl (subH_cons rfl (subH_cons rfl subH_nil))))
      rcases Nat.lt_or_ge j k with h6 | h6
      · exact hok j y h6 hy
      · obtain rfl : j = k := by omega
        rw [hx] at hy; cases hy; exact h1
  · simp at h
    obtain rfl : k = ls.length := by omega
    (repeat (first | refine zI ?_ | refine zL ?_ | refine zC ?_ | refine L_nil ?_ | refine A_seq ?_ | refine zR ?_ | refine zD ?_ | refine zK ?_ | refine zB ?_ | refine zA ?_ | refine zS ?_ | refine zU ?_ | refine zV ?_ | refine zF ?_ | with_reducible refine inblk_n ?_ | with_reducible refine then_n ?_ | refine A_block ?_ | refine A_skip ?_ | refine A_exit ?_ | refine zT ?_ | refine zE ?_ | refine zX ?_))
    refine A_ret ?_; refine ⟨_, rfl, ?_⟩
    exact frz_i64 (portTo_none fun j y hy => hok j y (List.getElem?_eq_some_iff.1 hy).1 hy).symm
/-- A value carried to another graph. -/
def carryV (p : ProgD) (g h : GraphD) (c : List (List Int)) (v x : Nat) : Int :=
  if (p.vars.getD x default).kind = 3 ∧ 0 ≤ (c.getD v []).getD x 0 then portTo (h.ports.getD v []) ((g.ports.getD v []).getD ((c.getD v []).getD x 0).toNat (0, 0)).1
  else broughtT p (tableF p h) v x ((c.getD v []).getD x 0)
def carryC (p : ProgD) (g h : GraphD) (c : List (List Int)) : List (List Int) := (tableF p h).mapIdx fun v r => (List.range r.length).map fun x => carryV p g h c v x
theorem carryC_mat (p : ProgD) (g h : GraphD) (c : List (List Int)) : builtR (tableF p h) (carryV p g h c) = matR (carryC p g h c) := by
  apply List.ext_getElem?
  intro i
  simp only [builtR, matR, carryC, List.getElem?_map, List.getElem?_mapIdx]
  cases (tableF p h)[i]? with
  | none => rfl
  | some r => simp
theorem table_at {p : ProgD} {g : GraphD} {v x : Nat} {ls : List Lk} {y : VarD} (hv : g.ports[v]? = some ls) (hx : p.vars[x]? = some y) : (tableF p g)[v]? = some (p.vars.map fun y => boundsV y g ls.length) ∧ (p.vars.map fun y => boundsV y g ls.length)[x]? = some (boundsV y g ls.length) := by
  simp [tableF, hv, hx]
theorem carry1_con (p : ProgD) (g h : GraphD) (c : List (List Int)) (hf : Fair p g) (hfh : Fair p h) (hin : cfgInB (tableF p g) c = true) (hlen : g.ports.length = h.ports.length) (v x : Nat) (r : List (Int × Int)) (hr : (tableF p h)[v]? = some r) (hx : x < r.length) :
    Con Tryz.prog 54 [i64 v, i64 x, .dp [encC c] 0, .dp [strA p.name, .sl 6 (p.vars.map encVar), .sl 3 (p.rules.map encRule)] 0, .dp [encInts h.ids, encPorts h.ports] 0, .dp [encInts g.ids, encPorts g.ports] 0, .dp [encTab (tableF p h)] 0] (i64 (carryV p g h c v x)) := by
  have hvh : v < h.ports.length := by have := (List.getElem?_eq_some_iff.1 hr).1; simpa [tableF] using this
  obtain ⟨lh, hlh⟩ := getN hvh
  obtain ⟨lg, hlg⟩ := getN (show v < g.ports.length by omega)
  have hxv : x < p.vars.length := by rw [table_row hr] at hx; exact hx
  obtain ⟨y, hy⟩ := getN hxv
  obtain ⟨tg1, tg2⟩ := table_at (p := p) hlg hy
  obtain ⟨th1, th2⟩ := table_at (p := p) hlh hy
  obtain ⟨s, hs, hst⟩ := (cfg_get hin).2 _ _ tg1
  obtain ⟨z, hz, hz1, hz2⟩ := (state_get hst).2 _ _ tg2
  have hval : (c.getD v []).getD x 0 = z := by simp [List.getD_eq_getElem?_getD, hs, hz]
  have hkind : (p.vars.getD x default).kind = y.kind := by simp [List.getD_eq_getElem?_getD, hy]
  have hll := hf.glen.2.2 lg (List.mem_of_getElem? hlg)
  have hlk := hfh.glen.2.2 lh (List.mem_of_getElem? hlh)
  have hdone : ¬ (y.kind = 3 ∧ 0 ≤ z) → carryV p g h c v x = bringF y.kind (boundsV y h lh.length).1 (boundsV y h lh.length).2 z := by
    intro hn
    rw [carryV, hval, hkind, if_neg hn, broughtT, hkind]
    simp only [List.getD_eq_getElem?_getD, th1, th2, Option.getD_some]
  refine con_of Tryz.func54 rfl rfl Tryz.ntmps54 Tryz.results54 rfl rfl ?_
  (repeat (first | refine zI ?_ | refine zL ?_ | refine zC ?_ | refine L_nil ?_ | refine A_seq ?_ | refine zR ?_ | refine zD ?_ | refine zK ?_ | refine zB ?_ | refine zA ?_ | refine zS ?_ | refine zU ?_ | refine zV ?_ | refine zF ?_ | with_reducible refine inblk_n ?_ | with_reducible refine then_n ?_ | refine A_block ?_ | refine A_skip ?_ | refine A_exit ?_ | refine zT ?_ | refine zE ?_ | refine zX ?_))
  refine L_split 25 rfl (fun h1 => ?_) (fun h1 => ?_)
  · simp at h1
    (repeat (first | refine zI ?_ | refine zL ?_ | refine zC ?_ | refine L_nil ?_ | refine A_seq ?_ | refine zR ?_ | refine zD ?_ | refine zK ?_ | refine zB ?_ | refine zA ?_ | refine zS ?_ | refine zU ?_ | refine zV ?_ | refine zF ?_ | with_reducible refine inblk_n ?_ | with_reducible refine then_n ?_ | refine A_block ?_ | refine A_skip ?_ | refine A_exit ?_ | refine zT ?_ | refine zE ?_ | refine zX ?_))
    refine A_cond rfl (fun h2 => ?_) (fun h2 => ?_)
    · simp at h2
      have hz3 : z < lg.length := by rw [bounds_three h1] at hz2; simp only at hz2; omega
      obtain ⟨l, hl⟩ := getN (show z.toNat < lg.length by omega)
      (repeat (first | refine zI ?_ | refine zL ?_ | refine zC ?_ | refine L_nil ?_ | refine A_seq ?_ | refine zR ?_ | refine zD ?_ | refine zK ?_ | refine zB ?_ | refine zA ?_ | refine zS ?_ | refine zU ?_ | refine zV ?_ | refine zF ?_ | with_reducible refine inblk_n ?_ | with_reducible refine then_n ?_ | refine A_block ?_ | refine A_skip ?_ | refine A_exit ?_ | refine zT ?_ | refine zE ?_ | refine zX ?_ | refine L_call rfl rfl (portto_con h v _ lh (by omega) (by simpa using hlh) (by omega)) rfl rfl ?_))
      refine A_ret ?_; refine ⟨_, rfl, ?_⟩
      refine frz_i64 ?_
      rw [carryV, hval, hkind, if_pos ⟨h1, h2⟩]
      simp only [List.getD_eq_getElem?_getD, hlh, hlg, Option.getD_some, hl]
    · simp at h2
      (repeat (first | refine zI ?_ | refine zL ?_ | refine zC ?_ | refine L_nil ?_ | refine A_seq ?_ | refine zR ?_ | refine zD ?_ | refine zK ?_ | refine zB ?_ | refine zA ?_ | refine zS ?_ | refine zU ?_ | refine zV ?_ | refine zF ?_ | with_reducible refine inblk_n ?_ | with_reducible refine then_n ?_ | refine A_block ?_ | refine A_skip ?_ | refine A_exit ?_ | refine zT ?_ | refine zE ?_ | refine zX ?_ | refine L_call rfl rfl (bring_con _ _ _ _) rfl rfl ?_))
      refine A_ret ?_; refine ⟨_, rfl, ?_⟩
      exact frz_i64 (hdone (by omega)).symm
  · simp at h1
    (repeat (first | refine zI ?_ | refine zL ?_ | refine zC ?_ | refine L_nil ?_ | refine A_seq ?_ | refine zR ?_ | refine zD ?_ | refine zK ?_ | refine zB ?_ | refine zA ?_ | refine zS ?_ | refine zU ?_ | refine zV ?_ | refine zF ?_ | with_reducible refine inblk_n ?_ | with_reducible refine then_n ?_ | refine A_block ?_ | refine A_skip ?_ | refine A_exit ?_ | refine zT ?_ | refine zE ?_ | refine zX ?_ | refine L_call rfl rfl (bring_con _ _ _ _) rfl rfl ?_))
    refine A_ret ?_; refine ⟨_, rfl, ?_⟩
    exact frz_i64 (hdone (by omega)).symm
def carryM (p : ProgD) (g h : GraphD) (c : List (List Int)) : List (List Int) × Int :=
  if checkF p = 0 then
    if validG g = true ∧ validG h = true ∧ g.ids.length = h.ids.length then
      if fitsF p g = 0 ∧ fitsF p h = 0 then
        if cfgInB (tableF p g) c = true then (carryC p g h c, 0) else ([], 10)
      else ([], 9)
    else ([], 1)
  else ([], 8)
theorem mcarry_con (p : ProgD) (g h : GraphD) (c : List (List Int)) (hf : Fair p g) (hfh : Fair p h) (hc : CfgIn c) : Con Tryz.prog 25 [encP p, encG g, encG h, encC c] (pairC (carryM p g h c)) := by
  have hgl := hf.glen
  have hhl := hfh.glen
  refine con_of Tryz.func25 rfl rfl Tryz.ntmps25 Tryz.results25 rfl rfl ?_
  (repeat (first | refine zI ?_ | refine zL ?_ | refine zC ?_ | refine L_nil ?_ | refine A_seq ?_ | refine zR ?_ | refine zD ?_ | refine zK ?_ | refine zB ?_ | refine zA ?_ | refine zS ?_ | refine zU ?_ | refine zV ?_ | refine zF ?_ | with_reducible refine inblk_n ?_ | with_reducible refine then_n ?_ | refine A_block ?_ | refine A_skip ?_ | refine A_exit ?_ | refine zT ?_ | refine zE ?_ | refine zX ?_ | refine L_call rfl rfl (tvalid_con p hf.pin hf.light) rfl rfl ?_))
  refine A_cond rfl (fun h1 => ?_) (fun h1 => ?_)
  · (repeat (first | refine zI ?_ | refine zL ?_ | refine zC ?_ | refine L_nil ?_ | refine A_seq ?_ | refine zR ?_ | refine zD ?_ | refine zK ?_ | refine zB ?_ | refine zA ?_ | refine zS ?_ | refine zU ?_ | refine zV ?_ | refine zF ?_ | with_reducible refine inblk_n ?_ | with_reducible refine then_n ?_ | refine A_block ?_ | refine A_skip ?_ | refine A_exit ?_ | refine zT ?_ | refine zE ?_ | refine zX ?_))
    refine A_ret ?_; refine ⟨_, rfl, ?_⟩
    have : ¬ checkF p = 0 := by simpa using h1
    rw [carryM, if_neg this]
    exact Frz.tup2 Frz.nil Frz.pure
  have h0 : checkF p = 0 := by simpa using h1
  rw [carryM, if_pos h0]
  (repeat (first | refine zI ?_ | refine zL ?_ | refine zC ?_ | refine L_nil ?_ | refine A_seq ?_ | refine zR ?_ | refine zD ?_ | refine zK ?_ | refine zB ?_ | refine zA ?_ | refine zS ?_ | refine zU ?_ | refine zV ?_ | refine zF ?_ | with_reducible refine inblk_n ?_ | with_reducible refine then_n ?_ | refine A_block ?_ | refine A_skip ?_ | refine A_exit ?_ | refine zT ?_ | refine zE ?_ | refine zX ?_ | refine L_call rfl rfl (gvalid_con g hf.lg) rfl rfl ?_))
  refine L_split 17 rfl (fun h2 => ?_) (fun h2 => ?_)
  · (repeat (first | refine zI ?_ | refine zL ?_ | refine zC ?_ | refine L_nil ?_ | refine A_seq ?_ | refine zR ?_ | refine zD ?_ | refine zK ?_ | refine zB ?_ | refine zA ?_ | refine zS ?_ | refine zU ?_ | refine zV ?_ | refine zF ?_ | with_reducible refine inblk_n ?_ | with_reducible refine then_n ?_ | refine A_block ?_ | refine A_skip ?_ | refine A_exit ?_ | refine zT ?_ | refine zE ?_ | refine zX ?_))
    refine A_ret ?_; refine ⟨_, rfl, ?_⟩
    rw [if_neg (by rintro ⟨e1, _, _⟩; simp [e1] at h2)]
    exact Frz.tup2 Frz.nil Frz.pure
  simp at h2
  (repeat (first | refine zI ?_ | refine zL ?_ | refine zC ?_ | refine L_nil ?_ | refine A_seq ?_ | refine zR ?_ | refine zD ?_ | refine zK ?_ | refine zB ?_ | refine zA ?_ | refine zS ?_ | refine zU ?_ | refine zV ?_ | refine zF ?_ | with_reducible refine inblk_n ?_ | with_reducible refine then_n ?_ | refine A_block ?_ | refine A_skip ?_ | refine A_exit ?_ | refine zT ?_ | refine zE ?_ | refine zX ?_ | refine L_call rfl rfl (gvalid_con h hfh.lg) rfl rfl ?_))
  refine L_split 22 rfl (fun h3 => ?_) (fun h3 => ?_)
  · (repeat (first | refine zI ?_ | refine zL ?_ | refine zC ?_ | refine L_nil ?_ | refine A_seq ?_ | refine zR ?_ | refine zD ?_ | refine zK ?_ | refine zB ?_ | refine zA ?_ | refine zS ?_ | refine zU ?_ | refine zV ?_ | refine zF ?_ | with_reducible refine inblk_n ?_ | with_reducible refine then_n ?_ | refine A_block ?_ | refine A_skip ?_ | refine A_exit ?_ | refine zT ?_ | refine zE ?_ | refine zX ?_))
    refine A_ret ?_; refine ⟨_, rfl, ?_⟩
    rw [if_neg (by rintro ⟨_, e1, _⟩; simp [e1] at h3)]
    exact Frz.tup2 Frz.nil Frz.pure
  simp at h3
  (repeat (first | refine zI ?_ | refine zL ?_ | refine zC ?_ | refine L_nil ?_ | refine A_seq ?_ | refine zR ?_ | refine zD ?_ | refine zK ?_ | refine zB ?_ | refine zA ?_ | refine zS ?_ | refine zU ?_ | refine zV ?_ | refine zF ?_ | with_reducible refine inblk_n ?_ | with_reducible refine then_n ?_ | refine A_block ?_ | refine A_skip ?_ | refine A_exit ?_ | refine zT ?_ | refine zE ?_ | refine zX ?_))
  refine A_cond rfl (fun h4 => ?_) (fun h4 => ?_)
  · (repeat (first | refine zI ?_ | refine zL ?_ | refine zC ?_ | refine L_nil ?_ | refine A_seq ?_ | refine zR ?_ | refine zD ?_ | refine zK ?_ | refine zB ?_ | refine zA ?_ | refine zS ?_ | refine zU ?_ | refine zV ?_ | refine zF ?_ | with_reducible refine inblk_n ?_ | with_reducible refine then_n ?_ | refine A_block ?_ | refine A_skip ?_ | refine A_exit ?_ | refine zT ?_ | refine zE ?_ | refine zX ?_))
    refine A_ret ?_; refine ⟨_, rfl, ?_⟩
    rw [if_neg (by rintro ⟨_, _, e1⟩; simp [e1] at h4)]
    exact Frz.tup2 Frz.nil Frz.pure
  have h4' : g.ids.length = h.ids.length := by simp at h4; omega
  rw [if_pos ⟨h2, h3, h4'⟩]
  (repeat (first | refine zI ?_ | refine zL ?_ | refine zC ?_ | refine L_nil ?_ | refine A_seq ?_ | refine zR ?_ | refine zD ?_ | refine zK ?_ | refine zB ?_ | refine zA ?_ | refine zS ?_ | refine zU ?_ | refine zV ?_ | refine zF ?_ | with_reducible refine inblk_n ?_ | with_reducible refine then_n ?_ | refine A_block ?_ | refine A_skip ?_ | refine A_exit ?_ | refine zT ?_ | refine zE ?_ | refine zX ?_ | refine L_call rfl rfl (fits_con p g hf) rfl rfl ?_))
  refine L_split 35 rfl (fun h5 => ?_) (fun h5 => ?_)
  · (repeat (first | refine zI ?_ | refine zL ?_ | refine zC ?_ | refine L_nil ?_ | refine A_seq ?_ | refine zR ?_ | refine zD ?_ | refine zK ?_ | refine zB ?_ | refine zA ?_ | refine zS ?_ | refine zU ?_ | refine zV ?_ | refine zF ?_ | with_reducible refine inblk_n ?_ | with_reducible refine then_n ?_ | refine A_block ?_ | refine A_skip ?_ | refine A_exit ?_ | refine zT ?_ | refine zE ?_ | refine zX ?_))
    refine A_ret ?_; refine ⟨_, rfl, ?_⟩
    rw [if_neg (by rintro ⟨e1, _⟩; simp [e1] at h5)]
    exact Frz.tup2 Frz.nil Frz.pure
  have h5' : fitsF p g = 0 := by simpa using h5
  (repeat (first | refine zI ?_ | refine zL ?_ | refine zC ?_ | refine L_nil ?_ | refine A_seq ?_ | refine zR ?_ | refine zD ?_ | refine zK ?_ | refine zB ?_ | refine zA ?_ | refine zS ?_ | refine zU ?_ | refine zV ?_ | refine zF ?_ | with_reducible refine inblk_n ?_ | with_reducible refine then_n ?_ | refine A_block ?_ | refine A_skip ?_ | refine A_exit ?_ | refine zT ?_ | refine zE ?_ | refine zX ?_ | refine L_call rfl rfl (fits_con p h hfh) rfl rfl ?_))
  refine A_cond rfl (fun h6 => ?_) (fun h6 => ?_)
  · (repeat (first | refine zI ?_ | refine zL ?_ | refine zC ?_ | refine L_nil ?_ | refine A_seq ?_ | refine zR ?_ | refine zD ?_ | refine zK ?_ | refine zB ?_ | refine zA ?_ | refine zS ?_ | refine zU ?_ | refine zV ?_ | refine zF ?_ | with_reducible refine inblk_n ?_ | with_reducible refine then_n ?_ | refine A_block ?_ | refine A_skip ?_ | refine A_exit ?_ | refine zT ?_ | refine zE ?_ | refine zX ?_))
    refine A_ret ?_; refine ⟨_, rfl, ?_⟩
    rw [if_neg (by rintro ⟨_, e1⟩; simp [e1] at h6)]
    exact Frz.tup2 Frz.nil Frz.pure
  have h6' : fitsF p h = 0 := by simpa using h6
  rw [if_pos ⟨h5', h6'⟩]
  have htg := table_in hf h5'
  have hth := table_in hfh h6'
  have hpl : g.ports.length = h.ports.length := by
    have e1 := (valid_facts h2).2.2.1
    have e2 := (valid_facts h3).2.2.1
    omega
  (repeat (first | refine zI ?_ | refine zL ?_ | refine zC ?_ | refine L_nil ?_ | refine A_seq ?_ | refine zR ?_ | refine zD ?_ | refine zK ?_ | refine zB ?_ | refine zA ?_ | refine zS ?_ | refine zU ?_ | refine zV ?_ | refine zF ?_ | with_reducible refine inblk_n ?_ | with_reducible refine then_n ?_ | refine A_block ?_ | refine A_skip ?_ | refine A_exit ?_ | refine zT ?_ | refine zE ?_ | refine zX ?_ | refine L_call rfl rfl (table_con p g hf h5') rfl rfl ?_ | refine L_call rfl rfl (within_con (tableF p g) c hc (cfg_of_fair hf).1) rfl rfl ?_))
  refine A_cond rfl (fun h7 => ?_) (fun h7 => ?_)
  · (repeat (first | refine zI ?_ | refine zL ?_ | refine zC ?_ | refine L_nil ?_ | refine A_seq ?_ | refine zR ?_ | refine zD ?_ | refine zK ?_ | refine zB ?_ | refine zA ?_ | refine zS ?_ | refine zU ?_ | refine zV ?_ | refine zF ?_ | with_reducible refine inblk_n ?_ | with_reducible refine then_n ?_ | refine A_block ?_ | refine A_skip ?_ | refine A_exit ?_ | refine zT ?_ | refine zE ?_ | refine zX ?_))
    refine A_ret ?_; refine ⟨_, rfl, ?_⟩
    rw [if_neg (by simpa using h7)]
    exact Frz.tup2 Frz.nil Frz.pure
  have hin : cfgInB (tableF p g) c = true := by simpa using h7
  rw [if_pos hin]
  (repeat (first | with_reducible refine then_n ?_ | with_reducible refine inblk_n ?_ | refine A_skip ?_)); refine A_seq ?_; refine A_region (lf := lfT) rfl ?_
  (repeat (first | refine zI ?_ | refine zL ?_ | refine zC ?_ | refine zK ?_ | refine zB ?_ | refine zA ?_ | refine zS ?_ | refine zU ?_ | refine zV ?_ | refine zF ?_ | refine zX ?_ | refine L_nil ?_ | refine L_call rfl rfl (table_con p h hfh h6') rfl rfl ?_))
  (repeat (first | with_reducible refine then_n ?_ | with_reducible refine inblk_n ?_ | refine A_skip ?_))
  refine A_freezeBox 10 rfl rfl rfl rfl rfl ?_
  refine A_freezeBox 7 rfl rfl rfl rfl rfl ?_
  refine A_freezeBox 6 rfl rfl rfl rfl rfl ?_
  refine A_freezeBox 5 rfl rfl rfl rfl rfl ?_
  refine A_freezeBox 4 rfl rfl rfl rfl rfl ?_
  refine A_sub (t' := [(10, .dp [encTab (tableF p h)] 0), (7, .dp [encC c] 0), (6, .dp [encInts h.ids, encPorts h.ports] 0), (5, .dp [encInts g.ids, encPorts g.ports] 0), (4, .dp [strA p.name, .sl 6 (p.vars.map encVar), .sl 3 (p.rules.map encRule)] 0)]) (h' := []) ?_ (by (repeat (first | exact subT_nil | refine subT_cons rfl ?_))) (by first | exact subH_nil | exact subH_cons rfl subH_nil | exact subH_cons rfl (subH_cons rfl subH_nil) | exact subH_cons rfl (subH_cons rfl (subH_cons rfl subH_nil)) | exact subH_cons rfl (subH_cons rfl (subH_cons rfl (subH_cons rfl subH_nil))))
  (repeat (first | refine zI ?_ | refine zL ?_ | refine zC ?_ | refine L_nil ?_ | refine A_seq ?_ | refine zR ?_ | refine zD ?_ | refine zK ?_ | refine zB ?_ | refine zA ?_ | refine zS ?_ | refine zU ?_ | refine zV ?_ | refine zF ?_ | with_reducible refine inblk_n ?_ | with_reducible refine then_n ?_ | refine A_block ?_ | refine A_skip ?_ | refine A_exit ?_ | refine zT ?_ | refine zE ?_ | refine zX ?_ | refine L_callO (build_con (tableF p h) 54 [.dp [encC c] 0, .dp [strA p.name, .sl 6 (p.vars.map encVar), .sl 3 (p.rules.map encRule)] 0, .dp [encInts h.ids, encPorts h.ports] 0, .dp [encInts g.ids, encPorts g.ports] 0, .dp [encTab (tableF p h)] 0] (carryV p g h c) rfl rfl hth.1 (fun r hr => (hth.2 r hr).1) (fun i j r hr hj => carry1_con p g h c hf hfh hin hpl i j r hr hj)) rfl rfl rfl rfl rfl rfl rfl rfl rfl rfl rfl rfl rfl ?_))
  refine A_ret ?_; refine ⟨_, rfl, ?_⟩
  refine Frz.tup2 ?_ Frz.pure
  exact frz_cfg (f := []) (M := 52) (n := (tableF p h).length) rfl rfl rfl (by simp [carryC]) (carryC_mat p g h c)
end Go.Proofs.YtenajilnjeafpaaGreat
set_option linter.unusedVariables false
set_option maxRecDepth 100000
set_option maxHeartbeats 8000000
namespace Go.Proofs.YtenajilnjeafpaaGreat
open Go.RowKit
theorem carryC_at {p : ProgD} {g h : GraphD} {c : List (List Int)} {v : Nat} {r : List (Int × Int)} (hr : (tableF p h)[v]? = some r) : (carryC p g h c)[v]? = some ((List.range r.length).map fun x => carryV p g h c v x) := by
  simp [carryC, List.getElem?_mapIdx, hr]
theorem shape_carry (p : ProgD) (g h : GraphD) (c : List (List Int)) : Shape (tableF p h) (carryC p g h c) := ⟨by simp [carryC], fun v r hr => ⟨_, carryC_at hr, by simp⟩⟩
theorem carry_in {p : ProgD} {g h : GraphD} {c : List (List Int)} (hfh : Fair p h) : CfgIn (carryM p g h c).1 := by
  unfold carryM
  split
  · split
    · split
      · rename_i h1
        split
        · exact cfg_shape hfh h1.2 (shape_carry p g h c)
        · exact cfg_nil
      · exact cfg_nil
    · exact cfg_nil
  · exact cfg_nil
end Go.Proofs.YtenajilnjeafpaaGreat
set_option linter.unusedVariables false
set_option maxRecDepth 100000
set_option maxHeartbeats 8000000
namespace Go.Proofs.YtenajilnjeafpaaGreat
open Go.RowKit
theorem set_way {α : Type} {A B : List α} {j : Nat} {a : α} (hl : A.length = B.length) (h : A[j]? = some a) : (A.take j ++ B.drop j).set j a = A.take (j + 1) ++ B.drop (j + 1) := by
  have hj := (List.getElem?_eq_some_iff.1 h).1
  obtain ⟨b, hb⟩ := getN (show j < B.length by omega)
  rw [drop_getM hb, take_snocM h, List.append_assoc, List.set_append_right _ _ (by simp; omega)]
  simp only [List.length_take, Nat.min_eq_left (Nat.le_of_lt hj), Nat.sub_self, List.set_cons_zero, List.cons_append, List.nil_append]
theorem way_at {α : Type} {A B : List α} {j : Nat} {b : α} (hl : A.length = B.length) (h : B[j]? = some b) : (A.take j ++ B.drop j)[j]? = some b := by
  have hj := (List.getElem?_eq_some_iff.1 h).1
  rw [List.getElem?_append_right (by simp; omega), List.length_take, Nat.min_eq_left (by omega), Nat.sub_self, drop_getM h]; rfl
theorem way_len {α : Type} {A B : List α} (hl : A.length = B.length) (j : Nat) : (A.take j ++ B.drop j).length = B.length := by
  rw [List.length_append, List.length_take, List.length_drop]; omega
theorem fits_cases (p : ProgD) (g : GraphD) : (checkF p ≠ 0 ∧ fitsF p g = 8) ∨ (checkF p = 0 ∧ validG g = false ∧ fitsF p g = 1) ∨ (checkF p = 0 ∧ validG g = true ∧ (fitsF p g = 0 ∨ fitsF p g = 9)) := by
  unfold fitsF
  by_cases h1 : checkF p = 0
  · by_cases h2 : validG g = true
    · by_cases h3 : p.vars.all (fitB g) = true
      · simp [h1, h2, h3]
      · simp [h1, h2, h3]
    · simp [h1, h2]
  · simp [h1]
def pgF3 (p : ProgD) (g h : GraphD) : List (Nat × Option LObj) := [(4, some (.cells [strA p.name, .sl 6 (p.vars.map encVar), .sl 3 (p.rules.map encRule)])), (5, some (.cells [encInts g.ids, encPorts g.ports])), (6, some (.cells [encInts h.ids, encPorts h.ports]))]
theorem rcarry_con (p : ProgD) (g h : GraphD) (c : List (List Int)) (hf : Fair p g) (hfh : Fair p h) (hc : CfgIn c) : Con Tryz.prog 26 [encP p, encG g, encG h, encC c] (pairC (carryM p g h c)) := by
  have hgl := hf.glen
  have hhl := hfh.glen
  have hvl := hf.vlen
  have hcg := fits_cases p g
  have hch := fits_cases p h
  have hnil : ∀ (h' : Nat → Option LObj) (e : Int), carryM p g h c = ([], e) → Frz h' (.tup [.v (.slice none 0 0), i64 e]) (pairC (carryM p g h c)) := fun h' e he => by rw [he]; exact Frz.tup2 Frz.nil Frz.pure
  have hpl : validG g = true → validG h = true → (g.ids.length = h.ids.length ↔ g.ports.length = h.ports.length) := by
    intro h2 h3
    have e1 := (valid_facts h2).2.2.1
    have e2 := (valid_facts h3).2.2.1
    omega
  refine con_of Tryz.func26 rfl rfl Tryz.ntmps26 Tryz.results26 rfl rfl ?_
  (repeat (first | refine zI ?_ | refine zL ?_ | refine zC ?_ | refine L_nil ?_ | refine A_seq ?_ | refine zR ?_ | refine zD ?_ | refine zK ?_ | refine zB ?_ | refine zA ?_ | refine zS ?_ | refine zU ?_ | refine zV ?_ | refine zF ?_ | with_reducible refine inblk_n ?_ | with_reducible refine then_n ?_ | refine A_block ?_ | refine A_skip ?_ | refine A_exit ?_ | refine zT ?_ | refine zE ?_ | refine zX ?_ | refine L_call rfl rfl (rfits_con p g hf) rfl rfl ?_ | refine L_call rfl rfl (rfits_con p h hfh) rfl rfl ?_))
  refine A_cond rfl (fun h1 => ?_) (fun h1 => ?_)
  · simp at h1
    (repeat (first | refine zI ?_ | refine zL ?_ | refine zC ?_ | refine L_nil ?_ | refine A_seq ?_ | refine zR ?_ | refine zD ?_ | refine zK ?_ | refine zB ?_ | refine zA ?_ | refine zS ?_ | refine zU ?_ | refine zV ?_ | refine zF ?_ | with_reducible refine inblk_n ?_ | with_reducible refine then_n ?_ | refine A_block ?_ | refine A_skip ?_ | refine A_exit ?_ | refine zT ?_ | refine zE ?_ | refine zX ?_))
    refine A_ret ?_; refine ⟨_, rfl, ?_⟩
    exact hnil _ 8 (by rw [carryM, if_neg (by omega)])
  simp at h1
  have h0 : checkF p = 0 := by omega
  have hcm : carryM p g h c = if validG g = true ∧ validG h = true ∧ g.ids.length = h.ids.length then
      if fitsF p g = 0 ∧ fitsF p h = 0 then if cfgInB (tableF p g) c = true then (carryC p g h c, 0) else ([], 10) else ([], 9) else ([], 1) := by rw [carryM, if_pos h0]
  (repeat (first | refine zI ?_ | refine zL ?_ | refine zC ?_ | refine L_nil ?_ | refine A_seq ?_ | refine zR ?_ | refine zD ?_ | refine zK ?_ | refine zB ?_ | refine zA ?_ | refine zS ?_ | refine zU ?_ | refine zV ?_ | refine zF ?_ | with_reducible refine inblk_n ?_ | with_reducible refine then_n ?_ | refine A_block ?_ | refine A_skip ?_ | refine A_exit ?_ | refine zT ?_ | refine zE ?_ | refine zX ?_))
  refine L_split 27 rfl (fun h2 => ?_) (fun h2 => ?_)
  · simp at h2
    (repeat (first | refine zI ?_ | refine zL ?_ | refine zC ?_ | refine L_nil ?_ | refine A_seq ?_ | refine zR ?_ | refine zD ?_ | refine zK ?_ | refine zB ?_ | refine zA ?_ | refine zS ?_ | refine zU ?_ | refine zV ?_ | refine zF ?_ | with_reducible refine inblk_n ?_ | with_reducible refine then_n ?_ | refine A_block ?_ | refine A_skip ?_ | refine A_exit ?_ | refine zT ?_ | refine zE ?_ | refine zX ?_))
    refine A_ret ?_; refine ⟨_, rfl, ?_⟩
    exact hnil _ 1 (by rw [hcm, if_neg]; rintro ⟨e, _⟩; rcases hcg with hh | hh | hh <;> simp [e] at hh <;> omega)
  simp at h2
  (repeat (first | refine zI ?_ | refine zL ?_ | refine zC ?_ | refine L_nil ?_ | refine A_seq ?_ | refine zR ?_ | refine zD ?_ | refine zK ?_ | refine zB ?_ | refine zA ?_ | refine zS ?_ | refine zU ?_ | refine zV ?_ | refine zF ?_ | with_reducible refine inblk_n ?_ | with_reducible refine then_n ?_ | refine A_block ?_ | refine A_skip ?_ | refine A_exit ?_ | refine zT ?_ | refine zE ?_ | refine zX ?_))
  refine L_split 31 rfl (fun h3 => ?_) (fun h3 => ?_)
  · simp at h3
    (repeat (first | refine zI ?_ | refine zL ?_ | refine zC ?_ | refine L_nil ?_ | refine A_seq ?_ | refine zR ?_ | refine zD ?_ | refine zK ?_ | refine zB ?_ | refine zA ?_ | refine zS ?_ | refine zU ?_ | refine zV ?_ | refine zF ?_ | with_reducible refine inblk_n ?_ | with_reducible refine then_n ?_ | refine A_block ?_ | refine A_skip ?_ | refine A_exit ?_ | refine zT ?_ | refine zE ?_ | refine zX ?_))
    refine A_ret ?_; refine ⟨_, rfl, ?_⟩
    exact hnil _ 1 (by rw [hcm, if_neg]; rintro ⟨_, e, _⟩; rcases hch with hh | hh | hh <;> simp [e] at hh <;> omega)
  simp at h3
  have hvg : validG g = true := by
    cases e : validG g with
    | true => rfl
    | false => rcases hcg with hh | hh | hh <;> simp [e] at hh <;> omega
  have hvh : validG h = true := by
    cases e : validG h with
    | true => rfl
    | false => rcases hch with hh | hh | hh <;> simp [e] at hh <;> omega
  have hpl' := hpl hvg hvh
  (repeat (first | refine zI ?_ | refine zL ?_ | refine zC ?_ | refine L_nil ?_ | refine A_seq ?_ | refine zR ?_ | refine zD ?_ | refine zK ?_ | refine zB ?_ | refine zA ?_ | refine zS ?_ | refine zU ?_ | refine zV ?_ | refine zF ?_ | with_reducible refine inblk_n ?_ | with_reducible refine then_n ?_ | refine A_block ?_ | refine A_skip ?_ | refine A_exit ?_ | refine zT ?_ | refine zE ?_ | refine zX ?_))
  refine A_cond rfl (fun h4 => ?_) (fun h4 => ?_)
  · simp at h4
    (repeat (first | refine zI ?_ | refine zL ?_ | refine zC ?_ | refine L_nil ?_ | refine A_seq ?_ | refine zR ?_ | refine zD ?_ | refine zK ?_ | refine zB ?_ | refine zA ?_ | refine zS ?_ | refine zU ?_ | refine zV ?_ | refine zF ?_ | with_reducible refine inblk_n ?_ | with_reducible refine then_n ?_ | refine A_block ?_ | refine A_skip ?_ | refine A_exit ?_ | refine zT ?_ | refine zE ?_ | refine zX ?_))
    refine A_ret ?_; refine ⟨_, rfl, ?_⟩
    exact hnil _ 1 (by rw [hcm, if_neg]; rintro ⟨_, _, e⟩; omega)
  have h4' : g.ports.length = h.ports.length := by simp at h4; omega
  have hids := hpl'.2 h4'
  rw [if_pos ⟨hvg, hvh, hids⟩] at hcm
  (repeat (first | refine zI ?_ | refine zL ?_ | refine zC ?_ | refine L_nil ?_ | refine A_seq ?_ | refine zR ?_ | refine zD ?_ | refine zK ?_ | refine zB ?_ | refine zA ?_ | refine zS ?_ | refine zU ?_ | refine zV ?_ | refine zF ?_ | with_reducible refine inblk_n ?_ | with_reducible refine then_n ?_ | refine A_block ?_ | refine A_skip ?_ | refine A_exit ?_ | refine zT ?_ | refine zE ?_ | refine zX ?_))
  refine L_split 43 rfl (fun h5 => ?_) (fun h5 => ?_)
  · simp at h5
    (repeat (first | refine zI ?_ | refine zL ?_ | refine zC ?_ | refine L_nil ?_ | refine A_seq ?_ | refine zR ?_ | refine zD ?_ | refine zK ?_ | refine zB ?_ | refine zA ?_ | refine zS ?_ | refine zU ?_ | refine zV ?_ | refine zF ?_ | with_reducible refine inblk_n ?_ | with_reducible refine then_n ?_ | refine A_block ?_ | refine A_skip ?_ | refine A_exit ?_ | refine zT ?_ | refine zE ?_ | refine zX ?_))
    refine A_ret ?_; refine ⟨_, rfl, ?_⟩
    exact hnil _ 9 (by rw [hcm, if_neg]; rintro ⟨e, _⟩; omega)
  simp at h5
  (repeat (first | refine zI ?_ | refine zL ?_ | refine zC ?_ | refine L_nil ?_ | refine A_seq ?_ | refine zR ?_ | refine zD ?_ | refine zK ?_ | refine zB ?_ | refine zA ?_ | refine zS ?_ | refine zU ?_ | refine zV ?_ | refine zF ?_ | with_reducible refine inblk_n ?_ | with_reducible refine then_n ?_ | refine A_block ?_ | refine A_skip ?_ | refine A_exit ?_ | refine zT ?_ | refine zE ?_ | refine zX ?_))
  refine A_cond rfl (fun h6 => ?_) (fun h6 => ?_)
  · simp at h6
    (repeat (first | refine zI ?_ | refine zL ?_ | refine zC ?_ | refine L_nil ?_ | refine A_seq ?_ | refine zR ?_ | refine zD ?_ | refine zK ?_ | refine zB ?_ | refine zA ?_ | refine zS ?_ | refine zU ?_ | refine zV ?_ | refine zF ?_ | with_reducible refine inblk_n ?_ | with_reducible refine then_n ?_ | refine A_block ?_ | refine A_skip ?_ | refine A_exit ?_ | refine zT ?_ | refine zE ?_ | refine zX ?_))
    refine A_ret ?_; refine ⟨_, rfl, ?_⟩
    exact hnil _ 9 (by rw [hcm, if_neg]; rintro ⟨_, e⟩; omega)
  simp at h6
  rw [if_pos ⟨h5, h6⟩] at hcm
  (repeat (first | refine zI ?_ | refine zL ?_ | refine zC ?_ | refine L_nil ?_ | refine A_seq ?_ | refine zR ?_ | refine zD ?_ | refine zK ?_ | refine zB ?_ | refine zA ?_ | refine zS ?_ | refine zU ?_ | refine zV ?_ | refine zF ?_ | with_reducible refine inblk_n ?_ | with_reducible refine then_n ?_ | refine A_block ?_ | refine A_skip ?_ | refine A_exit ?_ | refine zT ?_ | refine zE ?_ | refine zX ?_ | refine L_call rfl rfl (rvalid10_con p g c hf hc) rfl rfl ?_))
  refine A_cond rfl (fun h7 => ?_) (fun h7 => ?_)
  · simp at h7
    (repeat (first | refine zI ?_ | refine zL ?_ | refine zC ?_ | refine L_nil ?_ | refine A_seq ?_ | refine zR ?_ | refine zD ?_ | refine zK ?_ | refine zB ?_ | refine zA ?_ | refine zS ?_ | refine zU ?_ | refine zV ?_ | refine zF ?_ | with_reducible refine inblk_n ?_ | with_reducible refine then_n ?_ | refine A_block ?_ | refine A_skip ?_ | refine A_exit ?_ | refine zT ?_ | refine zE ?_ | refine zX ?_))
    refine A_ret ?_; refine ⟨_, rfl, ?_⟩
    exact hnil _ 10 (by rw [hcm, if_neg]; intro e; exact h7 (check_zero.2 ⟨h5, e⟩))
  have h7' : checkM p g c = 0 := by simpa using h7
  have hin := (check_zero.1 h7').2
  rw [if_pos hin] at hcm
  rw [hcm]
  have htg := table_in hf h5
  have hth := table_in hfh h6
  have hsh := shape_of hin
  obtain ⟨hcl, hrows⟩ := cfg_rows hf h5 hsh
  have htl : (tableF p h).length = (tableF p g).length := by simp [tableF, h4']
  have hCl : (carryC p g h c).length = c.length := by simp [carryC]; rw [htl, hsh.1]
  have hbr := tbring_con p h hfh h6
  (repeat (first | with_reducible refine then_n ?_ | with_reducible refine inblk_n ?_ | refine A_skip ?_))
  refine A_sub (t' := [(4, .lp 4 0), (5, .lp 5 0), (6, .lp 6 0), (3, encC c)]) (h' := pgF3 p g h) ?_ (by (repeat (first | exact subT_nil | refine subT_cons rfl ?_))) (by first | exact subH_nil | exact subH_cons rfl subH_nil | exact subH_cons rfl (subH_cons rfl subH_nil) | exact subH_cons rfl (subH_cons rfl (subH_cons rfl subH_nil)) | exact subH_cons rfl (subH_cons rfl (subH_cons rfl (subH_cons rfl subH_nil))))
  (repeat (first | refine zI ?_ | refine zL ?_ | refine zC ?_ | refine L_nil ?_ | refine A_seq ?_ | refine zR ?_ | refine zD ?_ | refine zK ?_ | refine zB ?_ | refine zA ?_ | refine zS ?_ | refine zU ?_ | refine zV ?_ | refine zF ?_ | with_reducible refine inblk_n ?_ | with_reducible refine then_n ?_ | refine A_block ?_ | refine A_skip ?_ | refine A_exit ?_ | refine zT ?_ | refine zE ?_ | refine zX ?_ | refine L_callO (rcopy_own c hcl hrows) rfl rfl rfl rfl rfl rfl rfl rfl rfl rfl rfl rfl rfl ?_))
  refine A_invS (α := Nat) (fun v => [(13, i64 v), (12, .ls 54 1 c.length), (3, encC c), (4, .lp 4 0), (5, .lp 5 0), (6, .lp 6 0)]) (fun v => pgF3 p g h ++ matH 54 1 (matR ((carryC p g h c).take v ++ c.drop v)) []) (fun v => c.length - v) (fun v => v ≤ c.length) 0 (by omega) (by (repeat (first | exact subT_nil | refine subT_cons rfl ?_))) (hsE rfl) ?_
  intro v hv
  (repeat (first | refine zI ?_ | refine zL ?_ | refine zC ?_ | refine L_nil ?_ | refine A_seq ?_ | refine zR ?_ | refine zD ?_ | refine zK ?_ | refine zB ?_ | refine zA ?_ | refine zS ?_ | refine zU ?_ | refine zV ?_ | refine zF ?_ | with_reducible refine inblk_n ?_ | with_reducible refine then_n ?_ | refine A_block ?_ | refine A_skip ?_ | refine A_exit ?_ | refine zT ?_ | refine zE ?_ | refine zX ?_))
  refine A_cond rfl (fun h8 => ?_) (fun h8 => ?_)
  · simp at h8
    obtain ⟨s, hs⟩ := getN h8
    obtain ⟨r, hr⟩ := getN (show v < (tableF p h).length by rw [htl, ← hsh.1]; exact h8)
    obtain ⟨rg, hrg⟩ := getN (show v < (tableF p g).length by rw [← hsh.1]; exact h8)
    have hrl := table_row hr
    have hrgl := table_row hrg
    obtain ⟨s', hs', hst⟩ := (cfg_get hin).2 v rg hrg
    rw [hs] at hs'
    cases hs'
    obtain ⟨hsl, hsg⟩ := state_get hst
    have hsb := hrows s (List.mem_of_getElem? hs)
    obtain ⟨Cv, hCv⟩ : ∃ Cv, Cv = (List.range r.length).map fun x => carryV p g h c v x := ⟨_, rfl⟩
    have hCvl : Cv.length = s.length := by rw [hCv]; simp; omega
    have hCat := carryC_at (p := p) (g := g) (h := h) (c := c) hr
    rw [← hCv] at hCat
    have hway := set_way (A := carryC p g h c) (B := c) hCl hCat
    have hwat := way_at (A := carryC p g h c) (B := c) hCl hs
    obtain ⟨D, hD⟩ : ∃ D, D = (carryC p g h c).take v ++ c.drop v := ⟨_, rfl⟩
    have hDl : D.length = c.length := by rw [hD]; exact way_len hCl v
    rw [← hD] at hway hwat ⊢
    (repeat (first | refine zI ?_ | refine zL ?_ | refine zC ?_ | refine L_nil ?_ | refine A_seq ?_ | refine zR ?_ | refine zD ?_ | refine zK ?_ | refine zB ?_ | refine zA ?_ | refine zS ?_ | refine zU ?_ | refine zV ?_ | refine zF ?_ | with_reducible refine inblk_n ?_ | with_reducible refine then_n ?_ | refine A_block ?_ | refine A_skip ?_ | refine A_exit ?_ | refine zT ?_ | refine zE ?_ | refine zX ?_))
    refine A_invS (α := Nat) (fun x => [(14, i64 x), (13, i64 v), (12, .ls 54 1 c.length), (3, encC c), (4, .lp 4 0), (5, .lp 5 0), (6, .lp 6 0)]) (fun x => pgF3 p g h ++ matH 54 1 (matR (D.set v (Cv.take x ++ s.drop x))) []) (fun x => s.length - x) (fun x => x ≤ s.length) 0 (by omega) (by (repeat (first | exact subT_nil | refine subT_cons rfl ?_))) (hsE (by rw [List.take_zero, List.drop_zero, List.nil_append, set_same hwat])) ?_
    intro x hx
    (repeat (first | refine zI ?_ | refine zL ?_ | refine zC ?_ | refine L_nil ?_ | refine A_seq ?_ | refine zR ?_ | refine zD ?_ | refine zK ?_ | refine zB ?_ | refine zA ?_ | refine zS ?_ | refine zU ?_ | refine zV ?_ | refine zF ?_ | with_reducible refine inblk_n ?_ | with_reducible refine then_n ?_ | refine A_block ?_ | refine A_skip ?_ | refine A_exit ?_ | refine zT ?_ | refine zE ?_ | refine zX ?_))
    refine A_cond rfl (fun h9 => ?_) (fun h9 => ?_)
    · simp at h9
      obtain ⟨z, hz⟩ := getN h9
      obtain ⟨y, hy⟩ := getN (show x < p.vars.length by omega)
      obtain ⟨b, hb⟩ := getN (show x < r.length by omega)
      obtain ⟨bg, hbg⟩ := getN (show x < rg.length by omega)
      obtain ⟨z', hz', hz1, hz2⟩ := hsg x bg hbg
      rw [hz] at hz'
      cases hz'
      obtain ⟨lh, hlh⟩ := getN (show v < h.ports.length by simpa [tableF] using (List.getElem?_eq_some_iff.1 hr).1)
      obtain ⟨lg, hlg⟩ := getN (show v < g.ports.length by simpa [tableF] using (List.getElem?_eq_some_iff.1 hrg).1)
      have hlk := hhl.2.2 lh (List.mem_of_getElem? hlh)
      have hll := hgl.2.2 lg (List.mem_of_getElem? hlg)
      obtain ⟨tg1, tg2⟩ := table_at (p := p) hlg hy
      rw [hrg] at tg1
      cases tg1
      rw [hbg] at tg2
      cases tg2
      have hval : (c.getD v []).getD x 0 = z := by simp [List.getD_eq_getElem?_getD, hs, hz]
      have hkind : (p.vars.getD x default).kind = y.kind := by simp [List.getD_eq_getElem?_getD, hy]
      have hCx : Cv[x]? = some (carryV p g h c v x) := by rw [hCv, List.getElem?_map, List.getElem?_range (by omega)]; rfl
      have hset := set_way (A := Cv) (B := s) hCvl hCx
      have hzat := way_at (A := Cv) (B := s) hCvl hz
      have hel := way_len (A := Cv) (B := s) hCvl x
      obtain ⟨E, hE⟩ : ∃ E, E = Cv.take x ++ s.drop x := ⟨_, rfl⟩
      rw [← hE] at hset hzat hel ⊢
      have hpart : (matR (D.set v E))[v]? = some (E.map i64) := by rw [matR_get, List.getElem?_set_self (by omega)]; rfl
      have hcO : cellsO (hlook (pgF3 p g h ++ matH 54 1 (matR (D.set v E)) []) 54) = some (matC 54 1 0 (matR (D.set v E)) ++ []) := by rw [mat_outer (f := pgF3 p g h) rfl]; exact cellsO_matO _
      have hcell : (matC 54 1 0 (matR (D.set v E)) ++ [])[(v : Int).toNat * 1]? = some (.ls (fam 54 v) 1 s.length) := by
        rw [show ((v : Int).toNat * 1) = v by simp, List.append_nil, matC_get, hpart]
        simp only [Option.map_some, List.length_map, hel, Nat.div_one, Nat.zero_add]
      have hrow : hlook (pgF3 p g h ++ matH 54 1 (matR (D.set v E)) []) (fam 54 v) = some (.vec (E.map i64)) := mat_row (f := pgF3 p g h) rfl (by omega) hpart
      have hnew : hlook ((fam 54 v, some (LObj.vec ((E.map i64).set x (i64 (carryV p g h c v x))))) :: (pgF3 p g h ++ matH 54 1 (matR (D.set v E)) [])) = hlook (pgF3 p g h ++ matH 54 1 (matR (D.set v (Cv.take (x + 1) ++ s.drop (x + 1)))) []) := by
        rw [← hset, ← List.map_set]
        refine (mat_upd (f := pgF3 p g h) rfl (by omega) hpart (by simp)).trans ?_
        rw [matR_set, matR_set, List.set_set]
      (repeat (first | refine zI ?_ | refine zL ?_ | refine zC ?_ | refine L_nil ?_ | refine A_seq ?_ | refine zR ?_ | refine zD ?_ | refine zK ?_ | refine zB ?_ | refine zA ?_ | refine zS ?_ | refine zU ?_ | refine zV ?_ | refine zF ?_ | with_reducible refine inblk_n ?_ | with_reducible refine then_n ?_ | refine A_block ?_ | refine A_skip ?_ | refine A_exit ?_ | refine zT ?_ | refine zE ?_ | refine zX ?_))
      refine A_cond rfl (fun h10 => ?_) (fun h10 => ?_)
      · simp at h10
        have e : carryV p g h c v x = broughtT p (tableF p h) v x z := by rw [carryV, hval, hkind, if_neg (by omega)]
        rw [e] at hnew
        (repeat (first | refine zI ?_ | refine zL ?_ | refine zC ?_ | refine L_nil ?_ | refine A_seq ?_ | refine zR ?_ | refine zD ?_ | refine zK ?_ | refine zB ?_ | refine zA ?_ | refine zS ?_ | refine zU ?_ | refine zV ?_ | refine zF ?_ | with_reducible refine inblk_n ?_ | with_reducible refine then_n ?_ | refine A_block ?_ | refine A_skip ?_ | refine A_exit ?_ | refine zT ?_ | refine zE ?_ | refine zX ?_ | refine L_index_ls tok rfl rfl (mat_outer (f := pgF3 p g h) rfl) rfl (by omega) (by omega) rfl rfl ?_ | refine L_load1 (r := .ls (fam 54 v) 1 s.length) tok rfl rfl rfl hcO hcell rfl rfl ?_ | refine L_index_ls tok rfl rfl hrow rfl (by omega) (by omega) rfl rfl ?_ | refine L_call rfl rfl (hbr v x z (by omega) (by omega) r b (by simpa using hr) (by simpa using hb)) rfl rfl ?_))
        refine L_storeI (h' := pgF3 p g h ++ matH 54 1 (matR (D.set v (Cv.take (x + 1) ++ s.drop (x + 1)))) []) tok rfl rfl rfl rfl rfl hrow (by rw [List.length_map, hel]; simp; omega) rfl ?_ rfl rfl ?_
        · rw [show ((x : Int).toNat * 1) = x by simp]; exact hnew
        (repeat (first | refine zI ?_ | refine zL ?_ | refine zC ?_ | refine L_nil ?_ | refine A_seq ?_ | refine zR ?_ | refine zD ?_ | refine zK ?_ | refine zB ?_ | refine zA ?_ | refine zS ?_ | refine zU ?_ | refine zV ?_ | refine zF ?_ | with_reducible refine inblk_n ?_ | with_reducible refine then_n ?_ | refine A_block ?_ | refine A_skip ?_ | refine A_exit ?_ | refine zT ?_ | refine zE ?_ | refine zX ?_))
        exact rndS (x + 1) (by omega) (by omega) (by (repeat (first | exact subT_nil | refine subT_cons rfl ?_))) (fun id o h => h)
      · simp at h10
        (repeat (first | refine zI ?_ | refine zL ?_ | refine zC ?_ | refine L_nil ?_ | refine A_seq ?_ | refine zR ?_ | refine zD ?_ | refine zK ?_ | refine zB ?_ | refine zA ?_ | refine zS ?_ | refine zU ?_ | refine zV ?_ | refine zF ?_ | with_reducible refine inblk_n ?_ | with_reducible refine then_n ?_ | refine A_block ?_ | refine A_skip ?_ | refine A_exit ?_ | refine zT ?_ | refine zE ?_ | refine zX ?_))
        refine A_cond rfl (fun h11 => ?_) (fun h11 => ?_)
        · simp at h11
          have hz3 : z < lg.length := by rw [bounds_three h10] at hz2; simp only at hz2; omega
          obtain ⟨l, hl⟩ := getN (show z.toNat < lg.length by omega)
          have e : carryV p g h c v x = portTo lh l.1 := by
            rw [carryV, hval, hkind, if_pos ⟨h10, h11⟩]
            simp only [List.getD_eq_getElem?_getD, hlh, hlg, Option.getD_some, hl]
          rw [e] at hnew
          (repeat (first | refine zI ?_ | refine zL ?_ | refine zC ?_ | refine L_nil ?_ | refine A_seq ?_ | refine zR ?_ | refine zD ?_ | refine zK ?_ | refine zB ?_ | refine zA ?_ | refine zS ?_ | refine zU ?_ | refine zV ?_ | refine zF ?_ | with_reducible refine inblk_n ?_ | with_reducible refine then_n ?_ | refine A_block ?_ | refine A_skip ?_ | refine A_exit ?_ | refine zT ?_ | refine zE ?_ | refine zX ?_ | refine L_index_ls tok rfl rfl (mat_outer (f := pgF3 p g h) rfl) rfl (by omega) (by omega) rfl rfl ?_ | refine L_load1 (r := .ls (fam 54 v) 1 s.length) tok rfl rfl rfl hcO hcell rfl rfl ?_ | refine L_index_ls tok rfl rfl hrow rfl (by omega) (by omega) rfl rfl ?_ | refine L_call rfl rfl (port_con h v l.1 lh (by omega) (by simpa using hlh) (by omega)) rfl rfl ?_))
          refine L_storeI (h' := pgF3 p g h ++ matH 54 1 (matR (D.set v (Cv.take (x + 1) ++ s.drop (x + 1)))) []) tok rfl rfl rfl rfl rfl hrow (by rw [List.length_map, hel]; simp; omega) rfl ?_ rfl rfl ?_
          · rw [show ((x : Int).toNat * 1) = x by simp]; exact hnew
          (repeat (first | refine zI ?_ | refine zL ?_ | refine zC ?_ | refine L_nil ?_ | refine A_seq ?_ | refine zR ?_ | refine zD ?_ | refine zK ?_ | refine zB ?_ | refine zA ?_ | refine zS ?_ | refine zU ?_ | refine zV ?_ | refine zF ?_ | with_reducible refine inblk_n ?_ | with_reducible refine then_n ?_ | refine A_block ?_ | refine A_skip ?_ | refine A_exit ?_ | refine zT ?_ | refine zE ?_ | refine zX ?_))
          exact rndS (x + 1) (by omega) (by omega) (by (repeat (first | exact subT_nil | refine subT_cons rfl ?_))) (fun id o h => h)
        · simp at h11
          have e : carryV p g h c v x = z := by
            obtain ⟨th1, th2⟩ := table_at (p := p) hlh hy
            rw [carryV, hval, hkind, if_neg (by omega), broughtT, hkind]
            simp only [List.getD_eq_getElem?_getD, th1, th2, Option.getD_some]
            rw [bounds_three h10] at hz1 hz2 ⊢
            simp only at hz1 hz2 ⊢
            rw [bringF, if_pos (by omega)]
          rw [e, set_same hzat] at hset
          (repeat (first | refine zI ?_ | refine zL ?_ | refine zC ?_ | refine L_nil ?_ | refine A_seq ?_ | refine zR ?_ | refine zD ?_ | refine zK ?_ | refine zB ?_ | refine zA ?_ | refine zS ?_ | refine zU ?_ | refine zV ?_ | refine zF ?_ | with_reducible refine inblk_n ?_ | with_reducible refine then_n ?_ | refine A_block ?_ | refine A_skip ?_ | refine A_exit ?_ | refine zT ?_ | refine zE ?_ | refine zX ?_))
          exact rndS (x + 1) (by omega) (by omega) (by (repeat (first | exact subT_nil | refine subT_cons rfl ?_))) (hsE (by rw [hset]))
    · simp at h9
      obtain rfl : x = s.length := by omega
      (repeat (first | refine zI ?_ | refine zL ?_ | refine zC ?_ | refine L_nil ?_ | refine A_seq ?_ | refine zR ?_ | refine zD ?_ | refine zK ?_ | refine zB ?_ | refine zA ?_ | refine zS ?_ | refine zU ?_ | refine zV ?_ | refine zF ?_ | with_reducible refine inblk_n ?_ | with_reducible refine then_n ?_ | refine A_block ?_ | refine A_skip ?_ | refine A_exit ?_ | refine zT ?_ | refine zE ?_ | refine zX ?_))
      have e1 : Cv.take s.length = Cv := List.take_of_length_le (by omega)
      rw [e1, List.drop_length, List.append_nil, hway]
      exact rndS (v + 1) (by omega) (by omega) (by (repeat (first | exact subT_nil | refine subT_cons rfl ?_))) (fun id o h => h)
  · simp at h8
    obtain rfl : v = c.length := by omega
    (repeat (first | refine zI ?_ | refine zL ?_ | refine zC ?_ | refine L_nil ?_ | refine A_seq ?_ | refine zR ?_ | refine zD ?_ | refine zK ?_ | refine zB ?_ | refine zA ?_ | refine zS ?_ | refine zU ?_ | refine zV ?_ | refine zF ?_ | with_reducible refine inblk_n ?_ | with_reducible refine then_n ?_ | refine A_block ?_ | refine A_skip ?_ | refine A_exit ?_ | refine zT ?_ | refine zE ?_ | refine zX ?_))
    refine A_ret ?_; refine ⟨_, rfl, ?_⟩
    rw [List.drop_length, List.append_nil, List.take_of_length_le (by omega)]
    refine Frz.tup2 ?_ Frz.pure
    exact frz_cfg (f := pgF3 p g h) (M := 54) (n := c.length) rfl rfl rfl hCl.symm rfl
end Go.Proofs.YtenajilnjeafpaaGreat
