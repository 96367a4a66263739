/- Part 20 of the texts under MemoryRanks,MemoryChanges,MemoryCarries,MemoryCorruptsNamedNodes,MemoryCarriesToItself: joined, with what it needs alone. -/
import Derived.Test.YtenajilnjeafpaaGreatL17
import Derived.Test.YtenajilnjeafpaaGreatL18
set_option linter.unusedVariables false
set_option maxRecDepth 100000
set_option maxHeartbeats 8000000
namespace Go.Proofs.YtenajilnjeafpaaGreat
open Go.RowKit
theorem list_ne_at {α : Type} {a b : List α} {k : Nat} {x y : α} (h1 : a[k]? = some x) (h2 : b[k]? = some y) (hne : x ≠ y) : a ≠ b := by
  rintro rfl; rw [h1] at h2; cases h2; exact hne rfl
theorem list_eq_take {α : Type} {a b : List α} {k : Nat} (hl : a.length = b.length) (hk : k = a.length) (h : a.take k = b.take k) : a = b := by
  subst hk
  rwa [List.take_length, hl, List.take_length] at h
theorem sameInts_con (a b : List Int) (ha : a.length ≤ 1000000) : Con Tryz.prog 46 [encInts a, encInts b] (boolA (a == b)) := by
  refine con_of Tryz.func46 rfl rfl Tryz.ntmps46 Tryz.results46 rfl rfl ?_
  (repeat (first | refine zI ?_ | refine zL ?_ | refine zC ?_ | refine L_nil ?_ | refine A_seq ?_ | refine zR ?_ | refine zD ?_ | refine zK ?_ | refine zB ?_ | refine zA ?_ | refine zS ?_ | refine zU ?_ | refine zV ?_ | refine zF ?_ | with_reducible refine inblk_n ?_ | with_reducible refine then_n ?_ | refine A_block ?_ | refine A_skip ?_ | refine A_exit ?_ | refine zT ?_ | refine zE ?_ | refine zX ?_))
  refine A_cond rfl (fun h => ?_) (fun h => ?_)
  · (repeat (first | refine zI ?_ | refine zL ?_ | refine zC ?_ | refine L_nil ?_ | refine A_seq ?_ | refine zR ?_ | refine zD ?_ | refine zK ?_ | refine zB ?_ | refine zA ?_ | refine zS ?_ | refine zU ?_ | refine zV ?_ | refine zF ?_ | with_reducible refine inblk_n ?_ | with_reducible refine then_n ?_ | refine A_block ?_ | refine A_skip ?_ | refine A_exit ?_ | refine zT ?_ | refine zE ?_ | refine zX ?_))
    refine A_ret ?_; refine ⟨_, rfl, ?_⟩
    have : a ≠ b := by rintro rfl; simp at h
    exact frz_bool (by simp [this])
  have hl : a.length = b.length := by simp at h; omega
  (repeat (first | refine zI ?_ | refine zL ?_ | refine zC ?_ | refine L_nil ?_ | refine A_seq ?_ | refine zR ?_ | refine zD ?_ | refine zK ?_ | refine zB ?_ | refine zA ?_ | refine zS ?_ | refine zU ?_ | refine zV ?_ | refine zF ?_ | with_reducible refine inblk_n ?_ | with_reducible refine then_n ?_ | refine A_block ?_ | refine A_skip ?_ | refine A_exit ?_ | refine zT ?_ | refine zE ?_ | refine zX ?_))
  refine A_inv (α := Nat) (fun k => [(5, i64 k), (0, encInts a), (1, encInts b)]) (fun _ => []) (fun k => a.length - k) (fun k => k ≤ a.length ∧ a.take k = b.take k) 0 ⟨by omega, rfl⟩ (by (repeat (first | exact subT_nil | refine subT_cons rfl ?_))) (by first | exact subH_nil | exact subH_cons rfl subH_nil | exact subH_cons rfl (subH_cons rfl subH_nil) | exact subH_cons rfl (subH_cons rfl (subH_cons rfl subH_nil)) | exact subH_cons rfl (subH_cons rfl (subH_cons rfl (subH_cons rfl subH_nil)))) ?_
  rintro k ⟨hk, hok⟩
  (repeat (first | refine zI ?_ | refine zL ?_ | refine zC ?_ | refine L_nil ?_ | refine A_seq ?_ | refine zR ?_ | refine zD ?_ | refine zK ?_ | refine zB ?_ | refine zA ?_ | refine zS ?_ | refine zU ?_ | refine zV ?_ | refine zF ?_ | with_reducible refine inblk_n ?_ | with_reducible refine then_n ?_ | refine A_block ?_ | refine A_skip ?_ | refine A_exit ?_ | refine zT ?_ | refine zE ?_ | refine zX ?_))
  refine A_cond rfl (fun h1 => ?_) (fun h1 => ?_)
  · simp at h1
    obtain ⟨x, hx⟩ := getN (show k < a.length by omega)
    obtain ⟨y, hy⟩ := getN (show k < b.length by omega)
    (repeat (first | refine zI ?_ | refine zL ?_ | refine zC ?_ | refine L_nil ?_ | refine A_seq ?_ | refine zR ?_ | refine zD ?_ | refine zK ?_ | refine zB ?_ | refine zA ?_ | refine zS ?_ | refine zU ?_ | refine zV ?_ | refine zF ?_ | with_reducible refine inblk_n ?_ | with_reducible refine then_n ?_ | refine A_block ?_ | refine A_skip ?_ | refine A_exit ?_ | refine zT ?_ | refine zE ?_ | refine zX ?_))
    refine A_cond rfl (fun h2 => ?_) (fun h2 => ?_)
    · (repeat (first | refine zI ?_ | refine zL ?_ | refine zC ?_ | refine L_nil ?_ | refine A_seq ?_ | refine zR ?_ | refine zD ?_ | refine zK ?_ | refine zB ?_ | refine zA ?_ | refine zS ?_ | refine zU ?_ | refine zV ?_ | refine zF ?_ | with_reducible refine inblk_n ?_ | with_reducible refine then_n ?_ | refine A_block ?_ | refine A_skip ?_ | refine A_exit ?_ | refine zT ?_ | refine zE ?_ | refine zX ?_))
      refine A_ret ?_; refine ⟨_, rfl, ?_⟩
      simp at h2
      exact frz_bool (by simp [list_ne_at hx hy h2])
    · (repeat (first | refine zI ?_ | refine zL ?_ | refine zC ?_ | refine L_nil ?_ | refine A_seq ?_ | refine zR ?_ | refine zD ?_ | refine zK ?_ | refine zB ?_ | refine zA ?_ | refine zS ?_ | refine zU ?_ | refine zV ?_ | refine zF ?_ | with_reducible refine inblk_n ?_ | with_reducible refine then_n ?_ | refine A_block ?_ | refine A_skip ?_ | refine A_exit ?_ | refine zT ?_ | refine zE ?_ | refine zX ?_))
      simp at h2
      exact rnd (k + 1) ⟨by omega, by rw [take_snocM hx, take_snocM hy, hok, h2]⟩ (by omega) (by (repeat (first | exact subT_nil | refine subT_cons rfl ?_))) (by first | exact subH_nil | exact subH_cons rfl subH_nil | exact subH_cons rfl (subH_cons rfl subH_nil) | exact subH_cons rfl (subH_cons rfl (subH_cons rfl subH_nil)) | exact subH_cons rfl (subH_cons rfl (subH_cons rfl (subH_cons rfl subH_nil))))
  · simp at h1
    (repeat (first | refine zI ?_ | refine zL ?_ | refine zC ?_ | refine L_nil ?_ | refine A_seq ?_ | refine zR ?_ | refine zD ?_ | refine zK ?_ | refine zB ?_ | refine zA ?_ | refine zS ?_ | refine zU ?_ | refine zV ?_ | refine zF ?_ | with_reducible refine inblk_n ?_ | with_reducible refine then_n ?_ | refine A_block ?_ | refine A_skip ?_ | refine A_exit ?_ | refine zT ?_ | refine zE ?_ | refine zX ?_))
    refine A_ret ?_; refine ⟨_, rfl, ?_⟩
    exact frz_bool (by simp [list_eq_take hl (show k = a.length by omega) hok])
theorem same_con10 (c d : List (List Int)) (hc : CfgIn c) : Con Tryz.prog 19 [encC c, encC d] (boolA (c == d)) := by
  have hcl := hc.1
  refine con_of Tryz.func19 rfl rfl Tryz.ntmps19 Tryz.results19 rfl rfl ?_
  (repeat (first | refine zI ?_ | refine zL ?_ | refine zC ?_ | refine L_nil ?_ | refine A_seq ?_ | refine zR ?_ | refine zD ?_ | refine zK ?_ | refine zB ?_ | refine zA ?_ | refine zS ?_ | refine zU ?_ | refine zV ?_ | refine zF ?_ | with_reducible refine inblk_n ?_ | with_reducible refine then_n ?_ | refine A_block ?_ | refine A_skip ?_ | refine A_exit ?_ | refine zT ?_ | refine zE ?_ | refine zX ?_))
  refine A_cond rfl (fun h => ?_) (fun h => ?_)
  · (repeat (first | refine zI ?_ | refine zL ?_ | refine zC ?_ | refine L_nil ?_ | refine A_seq ?_ | refine zR ?_ | refine zD ?_ | refine zK ?_ | refine zB ?_ | refine zA ?_ | refine zS ?_ | refine zU ?_ | refine zV ?_ | refine zF ?_ | with_reducible refine inblk_n ?_ | with_reducible refine then_n ?_ | refine A_block ?_ | refine A_skip ?_ | refine A_exit ?_ | refine zT ?_ | refine zE ?_ | refine zX ?_))
    refine A_ret ?_; refine ⟨_, rfl, ?_⟩
    have : c ≠ d := by rintro rfl; simp at h
    exact frz_bool (by simp [this])
  have hl : c.length = d.length := by simp at h; omega
  (repeat (first | refine zI ?_ | refine zL ?_ | refine zC ?_ | refine L_nil ?_ | refine A_seq ?_ | refine zR ?_ | refine zD ?_ | refine zK ?_ | refine zB ?_ | refine zA ?_ | refine zS ?_ | refine zU ?_ | refine zV ?_ | refine zF ?_ | with_reducible refine inblk_n ?_ | with_reducible refine then_n ?_ | refine A_block ?_ | refine A_skip ?_ | refine A_exit ?_ | refine zT ?_ | refine zE ?_ | refine zX ?_))
  refine A_inv (α := Nat) (fun k => [(5, i64 k), (0, encC c), (1, encC d)]) (fun _ => []) (fun k => c.length - k) (fun k => k ≤ c.length ∧ c.take k = d.take k) 0 ⟨by omega, rfl⟩ (by (repeat (first | exact subT_nil | refine subT_cons rfl ?_))) (by first | exact subH_nil | exact subH_cons rfl subH_nil | exact subH_cons rfl (subH_cons rfl subH_nil) | exact subH_cons rfl (subH_cons rfl (subH_cons rfl subH_nil)) | exact subH_cons rfl (subH_cons rfl (subH_cons rfl (subH_cons rfl subH_nil)))) ?_
  rintro k ⟨hk, hok⟩
  (repeat (first | refine zI ?_ | refine zL ?_ | refine zC ?_ | refine L_nil ?_ | refine A_seq ?_ | refine zR ?_ | refine zD ?_ | refine zK ?_ | refine zB ?_ | refine zA ?_ | refine zS ?_ | refine zU ?_ | refine zV ?_ | refine zF ?_ | with_reducible refine inblk_n ?_ | with_reducible refine then_n ?_ | refine A_block ?_ | refine A_skip ?_ | refine A_exit ?_ | refine zT ?_ | refine zE ?_ | refine zX ?_))
  refine A_cond rfl (fun h1 => ?_) (fun h1 => ?_)
  · simp at h1
    obtain ⟨x, hx⟩ := getN (show k < c.length by omega)
    obtain ⟨y, hy⟩ := getN (show k < d.length by omega)
    (repeat (first | refine zI ?_ | refine zL ?_ | refine zC ?_ | refine L_nil ?_ | refine A_seq ?_ | refine zR ?_ | refine zD ?_ | refine zK ?_ | refine zB ?_ | refine zA ?_ | refine zS ?_ | refine zU ?_ | refine zV ?_ | refine zF ?_ | with_reducible refine inblk_n ?_ | with_reducible refine then_n ?_ | refine A_block ?_ | refine A_skip ?_ | refine A_exit ?_ | refine zT ?_ | refine zE ?_ | refine zX ?_ | refine L_call rfl rfl (sameInts_con x y (hc.2 x (List.mem_of_getElem? hx))) rfl rfl ?_))
    refine A_cond rfl (fun h2 => ?_) (fun h2 => ?_)
    · (repeat (first | refine zI ?_ | refine zL ?_ | refine zC ?_ | refine L_nil ?_ | refine A_seq ?_ | refine zR ?_ | refine zD ?_ | refine zK ?_ | refine zB ?_ | refine zA ?_ | refine zS ?_ | refine zU ?_ | refine zV ?_ | refine zF ?_ | with_reducible refine inblk_n ?_ | with_reducible refine then_n ?_ | refine A_block ?_ | refine A_skip ?_ | refine A_exit ?_ | refine zT ?_ | refine zE ?_ | refine zX ?_))
      refine A_ret ?_; refine ⟨_, rfl, ?_⟩
      simp at h2
      exact frz_bool (by simp [list_ne_at hx hy h2])
    · (repeat (first | refine zI ?_ | refine zL ?_ | refine zC ?_ | refine L_nil ?_ | refine A_seq ?_ | refine zR ?_ | refine zD ?_ | refine zK ?_ | refine zB ?_ | refine zA ?_ | refine zS ?_ | refine zU ?_ | refine zV ?_ | refine zF ?_ | with_reducible refine inblk_n ?_ | with_reducible refine then_n ?_ | refine A_block ?_ | refine A_skip ?_ | refine A_exit ?_ | refine zT ?_ | refine zE ?_ | refine zX ?_))
      simp at h2
      exact rnd (k + 1) ⟨by omega, by rw [take_snocM hx, take_snocM hy, hok, h2]⟩ (by omega) (by (repeat (first | exact subT_nil | refine subT_cons rfl ?_))) (by first | exact subH_nil | exact subH_cons rfl subH_nil | exact subH_cons rfl (subH_cons rfl subH_nil) | exact subH_cons rfl (subH_cons rfl (subH_cons rfl subH_nil)) | exact subH_cons rfl (subH_cons rfl (subH_cons rfl (subH_cons rfl subH_nil))))
  · simp at h1
    (repeat (first | refine zI ?_ | refine zL ?_ | refine zC ?_ | refine L_nil ?_ | refine A_seq ?_ | refine zR ?_ | refine zD ?_ | refine zK ?_ | refine zB ?_ | refine zA ?_ | refine zS ?_ | refine zU ?_ | refine zV ?_ | refine zF ?_ | with_reducible refine inblk_n ?_ | with_reducible refine then_n ?_ | refine A_block ?_ | refine A_skip ?_ | refine A_exit ?_ | refine zT ?_ | refine zE ?_ | refine zX ?_))
    refine A_ret ?_; refine ⟨_, rfl, ?_⟩
    exact frz_bool (by simp [list_eq_take hl (show k = c.length by omega) hok])
end Go.Proofs.YtenajilnjeafpaaGreat
set_option linter.unusedVariables false
set_option maxRecDepth 100000
set_option maxHeartbeats 8000000
namespace Go.Proofs.YtenajilnjeafpaaGreat
open Go.RowKit
theorem table_inv {p : ProgD} {g : GraphD} {v x : Nat} {r : List (Int × Int)} {b : Int × Int} (hr : (tableF p g)[v]? = some r) (hb : r[x]? = some b) : ∃ ls y, g.ports[v]? = some ls ∧ p.vars[x]? = some y ∧ b = boundsV y g ls.length := by
  simp only [tableF, List.getElem?_map] at hr
  cases hg : g.ports[v]? with
  | none => rw [hg] at hr; cases hr
  | some ls =>
    rw [hg] at hr
    cases hr
    simp only [List.getElem?_map] at hb
    cases hy : p.vars[x]? with
    | none => rw [hy] at hb; cases hb
    | some y => rw [hy] at hb; cases hb; exact ⟨ls, y, rfl, rfl, rfl⟩
theorem tends_con (p : ProgD) (g : GraphD) (hf : Fair p g) (h0 : fitsF p g = 0) (v x : Nat) (r : List (Int × Int)) (b : Int × Int) (hr : (tableF p g)[v]? = some r) (hb : r[x]? = some b) : Con Tryz.prog 42 [encP p, encG g, i64 v, i64 x] (pairA b) := by
  obtain ⟨ls, y, h1, h2, rfl⟩ := table_inv hr hb
  obtain ⟨hc0, hg, hfit⟩ := fits_zero.1 h0
  have hll := hf.glen.2.2 ls (List.mem_of_getElem? h1)
  exact ends_con p g v x ls y ((check_facts hc0).2.2.2 y (List.mem_of_getElem? h2)) hg (by omega) (by simpa using h1) (by omega) (by omega) (by simpa using h2)
theorem tbring_con (p : ProgD) (g : GraphD) (hf : Fair p g) (h0 : fitsF p g = 0) (v x value : Int) (hv : 0 ≤ v) (hx : 0 ≤ x) (r : List (Int × Int)) (b : Int × Int) (hr : (tableF p g)[v.toNat]? = some r) (hb : r[x.toNat]? = some b) : Con Tryz.prog 58 [encP p, encG g, i64 v, i64 x, i64 value] (i64 (broughtT p (tableF p g) v.toNat x.toNat value)) := by
  obtain ⟨ls, y, h1, h2, rfl⟩ := table_inv hr hb
  obtain ⟨hc0, hg, hfit⟩ := fits_zero.1 h0
  have hll := hf.glen.2.2 ls (List.mem_of_getElem? h1)
  have hm := List.mem_of_getElem? h2
  have := rbring_con p g v x value ls y ((check_facts hc0).2.2.2 y hm) hg (hfit y hm) hv h1 hll hx h2
  have e : broughtT p (tableF p g) v.toNat x.toNat value = bringF y.kind (boundsV y g ls.length).1 (boundsV y g ls.length).2 value := by
    simp only [broughtT, List.getD_eq_getElem?_getD, hr, h2, Option.getD_some, hb]
  rw [e]; exact this
def pgF (p : ProgD) (g : GraphD) (i j : Nat) : List (Nat × Option LObj) := [(i, some (.cells [strA p.name, .sl 6 (p.vars.map encVar), .sl 3 (p.rules.map encRule)])), (j, some (.cells [encInts g.ids, encPorts g.ports]))]
theorem rcheck_con (p : ProgD) (g : GraphD) (c : List (List Int)) (hf : Fair p g) (hc : CfgIn c) : Con Tryz.prog 16 [encP p, encG g, encC c] (i64 (checkM p g c)) := by
  have hcl := hc.1
  have hgl := hf.glen
  have hvl := hf.vlen
  refine con_of Tryz.func16 rfl rfl Tryz.ntmps16 Tryz.results16 rfl rfl ?_
  (repeat (first | refine zI ?_ | refine zL ?_ | refine zC ?_ | refine L_nil ?_ | refine A_seq ?_ | refine zR ?_ | refine zD ?_ | refine zK ?_ | refine zB ?_ | refine zA ?_ | refine zS ?_ | refine zU ?_ | refine zV ?_ | refine zF ?_ | with_reducible refine inblk_n ?_ | with_reducible refine then_n ?_ | refine A_block ?_ | refine A_skip ?_ | refine A_exit ?_ | refine zT ?_ | refine zE ?_ | refine zX ?_ | refine L_call rfl rfl (rfits_con p g hf) rfl rfl ?_))
  refine A_cond rfl (fun h => ?_) (fun h => ?_)
  · (repeat (first | refine zI ?_ | refine zL ?_ | refine zC ?_ | refine L_nil ?_ | refine A_seq ?_ | refine zR ?_ | refine zD ?_ | refine zK ?_ | refine zB ?_ | refine zA ?_ | refine zS ?_ | refine zU ?_ | refine zV ?_ | refine zF ?_ | with_reducible refine inblk_n ?_ | with_reducible refine then_n ?_ | refine A_block ?_ | refine A_skip ?_ | refine A_exit ?_ | refine zT ?_ | refine zE ?_ | refine zX ?_))
    refine A_ret ?_; refine ⟨_, rfl, ?_⟩
    have : fitsF p g ≠ 0 := by simpa using h
    exact frz_i64 (by simp [checkM, this])
  have h0 : fitsF p g = 0 := by simpa using h
  have hbad : cfgInB (tableF p g) c = false → (10 : Int) = checkM p g c := fun e => by rw [checkM, if_pos h0, if_neg (by simp [e])]
  have htl : (tableF p g).length = g.ports.length := by simp [tableF]
  (repeat (first | refine zI ?_ | refine zL ?_ | refine zC ?_ | refine L_nil ?_ | refine A_seq ?_ | refine zR ?_ | refine zD ?_ | refine zK ?_ | refine zB ?_ | refine zA ?_ | refine zS ?_ | refine zU ?_ | refine zV ?_ | refine zF ?_ | with_reducible refine inblk_n ?_ | with_reducible refine then_n ?_ | refine A_block ?_ | refine A_skip ?_ | refine A_exit ?_ | refine zT ?_ | refine zE ?_ | refine zX ?_))
  refine A_cond rfl (fun h1 => ?_) (fun h1 => ?_)
  · (repeat (first | refine zI ?_ | refine zL ?_ | refine zC ?_ | refine L_nil ?_ | refine A_seq ?_ | refine zR ?_ | refine zD ?_ | refine zK ?_ | refine zB ?_ | refine zA ?_ | refine zS ?_ | refine zU ?_ | refine zV ?_ | refine zF ?_ | with_reducible refine inblk_n ?_ | with_reducible refine then_n ?_ | refine A_block ?_ | refine A_skip ?_ | refine A_exit ?_ | refine zT ?_ | refine zE ?_ | refine zX ?_))
    refine A_ret ?_; refine ⟨_, rfl, ?_⟩
    have : c.length ≠ (tableF p g).length := by rw [htl]; intro e; simp [e] at h1
    exact frz_i64 (hbad (by simp [cfgInB, this]))
  have hl : c.length = (tableF p g).length := by simp at h1; omega
  (repeat (first | refine zI ?_ | refine zL ?_ | refine zC ?_ | refine L_nil ?_ | refine A_seq ?_ | refine zR ?_ | refine zD ?_ | refine zK ?_ | refine zB ?_ | refine zA ?_ | refine zS ?_ | refine zU ?_ | refine zV ?_ | refine zF ?_ | with_reducible refine inblk_n ?_ | with_reducible refine then_n ?_ | refine A_block ?_ | refine A_skip ?_ | refine A_exit ?_ | refine zT ?_ | refine zE ?_ | refine zX ?_))
  refine A_inv (α := Nat) (fun k => [(8, i64 k), (2, encC c), (3, .lp 3 0), (4, .lp 4 0)]) (fun k => [(3, some (.cells [strA p.name, .sl 6 (p.vars.map encVar), .sl 3 (p.rules.map encRule)])), (4, some (.cells [encInts g.ids, encPorts g.ports]))]) (fun k => c.length - k) (fun k => k ≤ c.length ∧ (((tableF p g).zip c).take k).all (fun x => stateB x.1 x.2) = true) 0 ⟨by omega, rfl⟩ (by (repeat (first | exact subT_nil | refine subT_cons rfl ?_))) (by first | exact subH_nil | exact subH_cons rfl subH_nil | exact subH_cons rfl (subH_cons rfl subH_nil) | exact subH_cons rfl (subH_cons rfl (subH_cons rfl subH_nil)) | exact subH_cons rfl (subH_cons rfl (subH_cons rfl (subH_cons rfl subH_nil)))) ?_
  intro k ⟨hk, hok⟩
  (repeat (first | refine zI ?_ | refine zL ?_ | refine zC ?_ | refine L_nil ?_ | refine A_seq ?_ | refine zR ?_ | refine zD ?_ | refine zK ?_ | refine zB ?_ | refine zA ?_ | refine zS ?_ | refine zU ?_ | refine zV ?_ | refine zF ?_ | with_reducible refine inblk_n ?_ | with_reducible refine then_n ?_ | refine A_block ?_ | refine A_skip ?_ | refine A_exit ?_ | refine zT ?_ | refine zE ?_ | refine zX ?_))
  refine A_cond rfl (fun h2 => ?_) (fun h2 => ?_)
  · simp at h2
    obtain ⟨s, hs⟩ := getN h2
    obtain ⟨r, hr⟩ := getN (show k < (tableF p g).length by omega)
    have hz := zip_get hr hs
    have hrl := table_row hr
    have hsl := hc.2 s (List.mem_of_getElem? hs)
    (repeat (first | refine zI ?_ | refine zL ?_ | refine zC ?_ | refine L_nil ?_ | refine A_seq ?_ | refine zR ?_ | refine zD ?_ | refine zK ?_ | refine zB ?_ | refine zA ?_ | refine zS ?_ | refine zU ?_ | refine zV ?_ | refine zF ?_ | with_reducible refine inblk_n ?_ | with_reducible refine then_n ?_ | refine A_block ?_ | refine A_skip ?_ | refine A_exit ?_ | refine zT ?_ | refine zE ?_ | refine zX ?_))
    refine A_cond rfl (fun h3 => ?_) (fun h3 => ?_)
    · (repeat (first | refine zI ?_ | refine zL ?_ | refine zC ?_ | refine L_nil ?_ | refine A_seq ?_ | refine zR ?_ | refine zD ?_ | refine zK ?_ | refine zB ?_ | refine zA ?_ | refine zS ?_ | refine zU ?_ | refine zV ?_ | refine zF ?_ | with_reducible refine inblk_n ?_ | with_reducible refine then_n ?_ | refine A_block ?_ | refine A_skip ?_ | refine A_exit ?_ | refine zT ?_ | refine zE ?_ | refine zX ?_))
      refine A_ret ?_; refine ⟨_, rfl, ?_⟩
      have : s.length ≠ r.length := by rw [hrl]; intro e; simp [e] at h3
      exact frz_i64 (hbad (by rw [cfgInB, allM_bad hz (by simp [stateB, this]), Bool.and_false]))
    have hsr : s.length = r.length := by simp at h3; omega
    (repeat (first | refine zI ?_ | refine zL ?_ | refine zC ?_ | refine L_nil ?_ | refine A_seq ?_ | refine zR ?_ | refine zD ?_ | refine zK ?_ | refine zB ?_ | refine zA ?_ | refine zS ?_ | refine zU ?_ | refine zV ?_ | refine zF ?_ | with_reducible refine inblk_n ?_ | with_reducible refine then_n ?_ | refine A_block ?_ | refine A_skip ?_ | refine A_exit ?_ | refine zT ?_ | refine zE ?_ | refine zX ?_))
    refine A_inv (α := Nat) (fun j => [(9, i64 j), (8, i64 k), (2, encC c), (3, .lp 3 0), (4, .lp 4 0)]) (fun j => [(3, some (.cells [strA p.name, .sl 6 (p.vars.map encVar), .sl 3 (p.rules.map encRule)])), (4, some (.cells [encInts g.ids, encPorts g.ports]))]) (fun j => s.length - j) (fun j => j ≤ s.length ∧ ((r.zip s).take j).all (fun x => inRg x.1 x.2) = true) 0 ⟨by omega, rfl⟩ (by (repeat (first | exact subT_nil | refine subT_cons rfl ?_))) (by first | exact subH_nil | exact subH_cons rfl subH_nil | exact subH_cons rfl (subH_cons rfl subH_nil) | exact subH_cons rfl (subH_cons rfl (subH_cons rfl subH_nil)) | exact subH_cons rfl (subH_cons rfl (subH_cons rfl (subH_cons rfl subH_nil)))) ?_
    intro j ⟨hj, hjk⟩
    (repeat (first | refine zI ?_ | refine zL ?_ | refine zC ?_ | refine L_nil ?_ | refine A_seq ?_ | refine zR ?_ | refine zD ?_ | refine zK ?_ | refine zB ?_ | refine zA ?_ | refine zS ?_ | refine zU ?_ | refine zV ?_ | refine zF ?_ | with_reducible refine inblk_n ?_ | with_reducible refine then_n ?_ | refine A_block ?_ | refine A_skip ?_ | refine A_exit ?_ | refine zT ?_ | refine zE ?_ | refine zX ?_))
    refine A_cond rfl (fun h4 => ?_) (fun h4 => ?_)
    · simp at h4
      obtain ⟨z, hzj⟩ := getN h4
      obtain ⟨b, hb⟩ := getN (show j < r.length by omega)
      have hzz := zip_get hb hzj
      (repeat (first | refine zI ?_ | refine zL ?_ | refine zC ?_ | refine L_nil ?_ | refine A_seq ?_ | refine zR ?_ | refine zD ?_ | refine zK ?_ | refine zB ?_ | refine zA ?_ | refine zS ?_ | refine zU ?_ | refine zV ?_ | refine zF ?_ | with_reducible refine inblk_n ?_ | with_reducible refine then_n ?_ | refine A_block ?_ | refine A_skip ?_ | refine A_exit ?_ | refine zT ?_ | refine zE ?_ | refine zX ?_ | refine L_call rfl rfl (tends_con p g hf h0 k j r b hr hb) rfl rfl ?_ | refine L_call rfl rfl (in_con _ _ _) rfl rfl ?_))
      refine A_cond rfl (fun h5 => ?_) (fun h5 => ?_)
      · (repeat (first | refine zI ?_ | refine zL ?_ | refine zC ?_ | refine L_nil ?_ | refine A_seq ?_ | refine zR ?_ | refine zD ?_ | refine zK ?_ | refine zB ?_ | refine zA ?_ | refine zS ?_ | refine zU ?_ | refine zV ?_ | refine zF ?_ | with_reducible refine inblk_n ?_ | with_reducible refine then_n ?_ | refine A_block ?_ | refine A_skip ?_ | refine A_exit ?_ | refine zT ?_ | refine zE ?_ | refine zX ?_))
        refine A_ret ?_; refine ⟨_, rfl, ?_⟩
        have e : inRg b z = false := by simp [inB] at h5; simp [inRg]; omega
        exact frz_i64 (hbad (by rw [cfgInB, allM_bad hz (by rw [stateB, allM_bad hzz e, Bool.and_false]), Bool.and_false]))
      · (repeat (first | refine zI ?_ | refine zL ?_ | refine zC ?_ | refine L_nil ?_ | refine A_seq ?_ | refine zR ?_ | refine zD ?_ | refine zK ?_ | refine zB ?_ | refine zA ?_ | refine zS ?_ | refine zU ?_ | refine zV ?_ | refine zF ?_ | with_reducible refine inblk_n ?_ | with_reducible refine then_n ?_ | refine A_block ?_ | refine A_skip ?_ | refine A_exit ?_ | refine zT ?_ | refine zE ?_ | refine zX ?_))
        have e : inRg b z = true := by simp [inB] at h5; simp [inRg]; omega
        exact rnd (j + 1) ⟨by omega, allM_snoc hzz hjk e⟩ (by omega) (by (repeat (first | exact subT_nil | refine subT_cons rfl ?_))) (by first | exact subH_nil | exact subH_cons rfl subH_nil | exact subH_cons rfl (subH_cons rfl subH_nil) | exact subH_cons rfl (subH_cons rfl (subH_cons rfl subH_nil)) | exact subH_cons rfl (subH_cons rfl (subH_cons rfl (subH_cons rfl subH_nil))))
    · simp at h4
      obtain rfl : j = s.length := by omega
      (repeat (first | refine zI ?_ | refine zL ?_ | refine zC ?_ | refine L_nil ?_ | refine A_seq ?_ | refine zR ?_ | refine zD ?_ | refine zK ?_ | refine zB ?_ | refine zA ?_ | refine zS ?_ | refine zU ?_ | refine zV ?_ | refine zF ?_ | with_reducible refine inblk_n ?_ | with_reducible refine then_n ?_ | refine A_block ?_ | refine A_skip ?_ | refine A_exit ?_ | refine zT ?_ | refine zE ?_ | refine zX ?_))
      rw [List.take_of_length_le (by simp; omega)] at hjk
      exact rnd (k + 1) ⟨by omega, allM_snoc hz hok (by simp [stateB, hsr, hjk])⟩ (by omega) (by (repeat (first | exact subT_nil | refine subT_cons rfl ?_))) (by first | exact subH_nil | exact subH_cons rfl subH_nil | exact subH_cons rfl (subH_cons rfl subH_nil) | exact subH_cons rfl (subH_cons rfl (subH_cons rfl subH_nil)) | exact subH_cons rfl (subH_cons rfl (subH_cons rfl (subH_cons rfl subH_nil))))
  · simp at h2
    obtain rfl : k = c.length := by omega
    (repeat (first | refine zI ?_ | refine zL ?_ | refine zC ?_ | refine L_nil ?_ | refine A_seq ?_ | refine zR ?_ | refine zD ?_ | refine zK ?_ | refine zB ?_ | refine zA ?_ | refine zS ?_ | refine zU ?_ | refine zV ?_ | refine zF ?_ | with_reducible refine inblk_n ?_ | with_reducible refine then_n ?_ | refine A_block ?_ | refine A_skip ?_ | refine A_exit ?_ | refine zT ?_ | refine zE ?_ | refine zX ?_))
    refine A_ret ?_; refine ⟨_, rfl, ?_⟩
    rw [List.take_of_length_le (by simp; omega)] at hok
    exact frz_i64 (by rw [checkM, if_pos h0, if_pos (by simp [cfgInB, hl, hok])])
theorem rvalid10_con (p : ProgD) (g : GraphD) (c : List (List Int)) (hf : Fair p g) (hc : CfgIn c) : Con Tryz.prog 18 [encP p, encG g, encC c] (boolA (checkM p g c == 0)) := by
  refine con_of Tryz.func18 rfl rfl Tryz.ntmps18 Tryz.results18 rfl rfl ?_
  (repeat (first | refine zI ?_ | refine zL ?_ | refine zC ?_ | refine L_nil ?_ | refine A_seq ?_ | refine zR ?_ | refine zD ?_ | refine zK ?_ | refine zB ?_ | refine zA ?_ | refine zS ?_ | refine zU ?_ | refine zV ?_ | refine zF ?_ | with_reducible refine inblk_n ?_ | with_reducible refine then_n ?_ | refine A_block ?_ | refine A_skip ?_ | refine A_exit ?_ | refine zT ?_ | refine zE ?_ | refine zX ?_ | refine L_call rfl rfl (rcheck_con p g c hf hc) rfl rfl ?_))
  refine A_ret ?_; refine ⟨_, rfl, ?_⟩
  exact frz_bool (by rfl)
end Go.Proofs.YtenajilnjeafpaaGreat
