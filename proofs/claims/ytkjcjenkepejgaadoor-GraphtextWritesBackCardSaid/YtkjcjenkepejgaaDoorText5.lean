/- Contracts of the reference: numbers and graphs written as text. -/
import Derived.Test.YtkjcjenkepejgaaDoorText4
import Derived.Test.YtkjcjenkepejgaaDoorFmtMath
import Derived.Test.YtkjcjenkepejgaaDoorSymT
set_option linter.unusedVariables false
set_option maxRecDepth 100000
set_option maxHeartbeats 4000000
namespace Go.Proofs.YtkjcjenkepejgaaDoor
open Go.RowKit
theorem ba_app (a b : Bs) : ba a ++ ba b = ba (a ++ b) := by
  apply ba_ext
  rw [bl_ba]
  show (ba a ++ ba b).data.toList = _
  rw [ByteArray.data_append]
  simp [ba]
theorem str_nums (n : Nat) : strOfNums [(48 : Int) + (n : Nat)] = ba [UInt8.ofNat (48 + n)] := by
  unfold strOfNums ba
  simp only [List.map_cons, List.map_nil]
  congr 4
theorem max_nat (v : Int) : (if (0 : Int) > v then (0 : Int) else v) = (v.toNat : Int) := by split <;> omega
theorem decimal_con (v : Int) (hv : v ≤ 1000000000) : Con Tryd.prog 19 [i64 v] (strA (ba (dec v.toNat))) := by
  refine con_of Tryd.func19 rfl rfl Tryd.ntmps19 Tryd.results19 rfl rfl ?_
  have hlen := dec_len 10 v.toNat (by omega) (by omega)
  have hm : (if (0 : Int) > v then (0 : Int) else v).tmod 10 = ((v.toNat % 10 : Nat) : Int) := by rw [max_nat]; rfl
  (repeat (first | refine L_u8 tok rfl (by constructor <;> omega) rfl rfl ?_ | refine L_int tok rfl (by constructor <;> omega) rfl rfl ?_ | refine L_lenMap tok rfl rfl rfl rfl ?_ | refine L_calm tok rfl rfl rfl ?_ | refine L_nil ?_ | refine A_seq ?_ | refine A_region (lf := lfT) ?_ | refine A_region_drawn (lf := lf0) mixed (by kernel_rfl) rfl ?_ | refine L_skip rfl rfl ?_ | refine L_box rfl rfl rfl rfl rfl rfl rfl rfl ?_ | refine L_alloc tok rfl rfl rfl rfl rfl rfl rfl ?_ | refine L_store tok rfl rfl rfl rfl rfl rfl rfl rfl rfl ?_ | refine L_build tok rfl rfl rfl rfl rfl rfl ?_ | refine L_buildSlice tok rfl rfl rfl rfl rfl rfl rfl rfl rfl ?_ | refine L_makeFunc rfl rfl rfl ?_ | with_reducible refine inblk_n ?_ | with_reducible refine then_n ?_ | refine A_block ?_ | refine A_skip ?_ | refine A_exit ?_ | refine A_cond (b := true) rfl (fun _ => ?_) (fun h => by cases h) | refine A_cond (b := false) rfl (fun h => by cases h) (fun _ => ?_) | refine L_index tok rfl rfl rfl (by omega) (row_map (by assumption)) rfl rfl ?_ | refine L_index tok rfl rfl rfl (by omega) (row_mapI (by assumption)) rfl rfl ?_ | refine L_b2s tok rfl rfl rfl rfl rfl rfl ?_))
  refine A_inv (α := Nat × Bs) (fun q => [(0, i64 q.1), (3, strA (ba q.2))]) (fun q => []) (fun q => q.1) (fun q => q.1 ≤ v.toNat ∧ dec v.toNat = (if q.1 < 10 then [] else dec (q.1 / 10)) ++ q.2) (v.toNat, [UInt8.ofNat (48 + v.toNat % 10)]) ⟨Nat.le_refl _, ?_⟩ ?_ (by first | exact subH_nil | exact subH_cons rfl subH_nil | exact subH_cons rfl (subH_cons rfl subH_nil) | exact subH_cons rfl (subH_cons rfl (subH_cons rfl subH_nil)) | exact subH_cons rfl (subH_cons rfl (subH_cons rfl (subH_cons rfl subH_nil)))) ?_
  · simp only
    by_cases h : v.toNat < 10
    · rw [dec_small h, if_pos h, Nat.mod_eq_of_lt h]; rfl
    · rw [dec_big h, if_neg h]
  · refine subT_cons (some_av rfl (i64_eq (max_nat v))) (subT_cons (some_av rfl ?_) subT_nil)
    rw [hm, str_nums]; rfl
  rintro ⟨n, s⟩ ⟨hn, hs⟩
  simp only at hn hs
  have hsl : s.length ≤ 10 := by
    have := congrArg List.length hs
    rw [List.length_append] at this
    omega
  (repeat (first | refine L_int tok rfl (by constructor <;> omega) rfl rfl ?_ | refine L_lenMap tok rfl rfl rfl rfl ?_ | refine L_calm tok rfl rfl rfl ?_ | refine L_nil ?_ | refine A_seq ?_ | refine A_region (lf := lfT) ?_ | refine A_region_drawn (lf := lf0) mixed (by kernel_rfl) rfl ?_ | refine L_skip rfl rfl ?_ | refine L_box rfl rfl rfl rfl rfl rfl rfl rfl ?_ | refine L_alloc tok rfl rfl rfl rfl rfl rfl rfl ?_ | refine L_store tok rfl rfl rfl rfl rfl rfl rfl rfl rfl ?_ | refine L_build tok rfl rfl rfl rfl rfl rfl ?_ | refine L_buildSlice tok rfl rfl rfl rfl rfl rfl rfl rfl rfl ?_ | refine L_makeFunc rfl rfl rfl ?_ | with_reducible refine inblk_n ?_ | with_reducible refine then_n ?_ | refine A_block ?_ | refine A_skip ?_ | refine A_exit ?_ | refine A_cond (b := true) rfl (fun _ => ?_) (fun h => by cases h) | refine A_cond (b := false) rfl (fun h => by cases h) (fun _ => ?_) | refine L_index tok rfl rfl rfl (by omega) (row_map (by assumption)) rfl rfl ?_ | refine L_index tok rfl rfl rfl (by omega) (row_mapI (by assumption)) rfl rfl ?_))
  refine A_cond rfl (fun h => ?_) (fun h => ?_)
  · simp at h
    have hq : ((((n, s).1 : Nat) : Int).tdiv 10) = ((n / 10 : Nat) : Int) := rfl
    have hr : ((((n, s).1 : Nat) : Int).tdiv 10).tmod 10 = ((n / 10 % 10 : Nat) : Int) := rfl
    (repeat (first | refine L_u8 tok rfl (by constructor <;> omega) rfl rfl ?_ | refine L_int tok rfl (by constructor <;> omega) rfl rfl ?_ | refine L_lenMap tok rfl rfl rfl rfl ?_ | refine L_calm tok rfl rfl rfl ?_ | refine L_nil ?_ | refine A_seq ?_ | refine A_region (lf := lfT) ?_ | refine A_region_drawn (lf := lf0) mixed (by kernel_rfl) rfl ?_ | refine L_skip rfl rfl ?_ | refine L_box rfl rfl rfl rfl rfl rfl rfl rfl ?_ | refine L_alloc tok rfl rfl rfl rfl rfl rfl rfl ?_ | refine L_store tok rfl rfl rfl rfl rfl rfl rfl rfl rfl ?_ | refine L_build tok rfl rfl rfl rfl rfl rfl ?_ | refine L_buildSlice tok rfl rfl rfl rfl rfl rfl rfl rfl rfl ?_ | refine L_makeFunc rfl rfl rfl ?_ | with_reducible refine inblk_n ?_ | with_reducible refine then_n ?_ | refine A_block ?_ | refine A_skip ?_ | refine A_exit ?_ | refine A_cond (b := true) rfl (fun _ => ?_) (fun h => by cases h) | refine A_cond (b := false) rfl (fun h => by cases h) (fun _ => ?_) | refine L_index tok rfl rfl rfl (by omega) (row_map (by assumption)) rfl rfl ?_ | refine L_index tok rfl rfl rfl (by omega) (row_mapI (by assumption)) rfl rfl ?_ | refine L_b2s tok rfl rfl rfl rfl rfl rfl ?_))
    refine L_same 21 (y := strA (ba [UInt8.ofNat (48 + n / 10 % 10)])) rfl (by rw [hr, str_nums]; rfl) ?_
    (repeat (first | refine L_int tok rfl (by constructor <;> omega) rfl rfl ?_ | refine L_lenMap tok rfl rfl rfl rfl ?_ | refine L_calm tok rfl rfl rfl ?_ | refine L_nil ?_ | refine A_seq ?_ | refine A_region (lf := lfT) ?_ | refine A_region_drawn (lf := lf0) mixed (by kernel_rfl) rfl ?_ | refine L_skip rfl rfl ?_ | refine L_box rfl rfl rfl rfl rfl rfl rfl rfl ?_ | refine L_alloc tok rfl rfl rfl rfl rfl rfl rfl ?_ | refine L_store tok rfl rfl rfl rfl rfl rfl rfl rfl rfl ?_ | refine L_build tok rfl rfl rfl rfl rfl rfl ?_ | refine L_buildSlice tok rfl rfl rfl rfl rfl rfl rfl rfl rfl ?_ | refine L_makeFunc rfl rfl rfl ?_ | with_reducible refine inblk_n ?_ | with_reducible refine then_n ?_ | refine A_block ?_ | refine A_skip ?_ | refine A_exit ?_ | refine A_cond (b := true) rfl (fun _ => ?_) (fun h => by cases h) | refine A_cond (b := false) rfl (fun h => by cases h) (fun _ => ?_) | refine L_index tok rfl rfl rfl (by omega) (row_map (by assumption)) rfl rfl ?_ | refine L_index tok rfl rfl rfl (by omega) (row_mapI (by assumption)) rfl rfl ?_ | refine L_concat rfl rfl (by rw [ba_size, ba_size]; simp; omega) rfl rfl ?_))
    refine rnd (n / 10, UInt8.ofNat (48 + n / 10 % 10) :: s) ⟨by simp only; omega, ?_⟩ (by simp only; omega) ?_ (by first | exact subH_nil | exact subH_cons rfl subH_nil | exact subH_cons rfl (subH_cons rfl subH_nil) | exact subH_cons rfl (subH_cons rfl (subH_cons rfl subH_nil)) | exact subH_cons rfl (subH_cons rfl (subH_cons rfl (subH_cons rfl subH_nil))))
    · simp only
      rw [hs, if_neg (by omega)]
      by_cases h2 : n / 10 < 10
      · rw [dec_small h2, if_pos h2, Nat.mod_eq_of_lt h2]; rfl
      · rw [dec_big h2, if_neg h2]; simp
    · refine subT_cons rfl (subT_cons (some_av rfl (str_eq ?_)) subT_nil)
      rw [ba_app]; rfl
  · simp at h
    (repeat (first | refine L_int tok rfl (by constructor <;> omega) rfl rfl ?_ | refine L_lenMap tok rfl rfl rfl rfl ?_ | refine L_calm tok rfl rfl rfl ?_ | refine L_nil ?_ | refine A_seq ?_ | refine A_region (lf := lfT) ?_ | refine A_region_drawn (lf := lf0) mixed (by kernel_rfl) rfl ?_ | refine L_skip rfl rfl ?_ | refine L_box rfl rfl rfl rfl rfl rfl rfl rfl ?_ | refine L_alloc tok rfl rfl rfl rfl rfl rfl rfl ?_ | refine L_store tok rfl rfl rfl rfl rfl rfl rfl rfl rfl ?_ | refine L_build tok rfl rfl rfl rfl rfl rfl ?_ | refine L_buildSlice tok rfl rfl rfl rfl rfl rfl rfl rfl rfl ?_ | refine L_makeFunc rfl rfl rfl ?_ | with_reducible refine inblk_n ?_ | with_reducible refine then_n ?_ | refine A_block ?_ | refine A_skip ?_ | refine A_exit ?_ | refine A_cond (b := true) rfl (fun _ => ?_) (fun h => by cases h) | refine A_cond (b := false) rfl (fun h => by cases h) (fun _ => ?_) | refine L_index tok rfl rfl rfl (by omega) (row_map (by assumption)) rfl rfl ?_ | refine L_index tok rfl rfl rfl (by omega) (row_mapI (by assumption)) rfl rfl ?_))
    refine A_ret ?_; refine ⟨_, rfl, ?_⟩
    refine frz_eq ?_
    rw [hs, if_pos (by omega)]
    rfl

def outV (v : Nat) (g : GraphD) : Bs := unlines (fmtL (g.ids.take v) (g.ports.take v))
def outI (x : Int) (ls : List Lk) (i : Nat) : Bs := nodeW ++ glue 32 (dec x.toNat :: (ls.take i).map lkW)
theorem outI_next {x : Int} {ls : List Lk} {i : Nat} {l : Lk} (h : ls[i]? = some l) : outI x ls (i + 1) = outI x ls i ++ (32 :: lkW l) := by
  unfold outI; rw [take_next h]; simp [glue]
theorem outV_next {v : Nat} {g : GraphD} {x : Int} {ls : List Lk} (hx : g.ids[v]? = some x) (hl : g.ports[v]? = some ls) : outV (v + 1) g = outV v g ++ (lineW x ls ++ [10]) := by
  unfold outV fmtL
  rw [take_next hx, take_next hl, List.zipWith_append (by simp; have := (List.getElem?_eq_some_iff.1 hx).1; have := (List.getElem?_eq_some_iff.1 hl).1; omega)]
  simp [unlines]
theorem outV_len {v : Nat} {g : GraphD} (h : GOk g) : (outV v g).length ≤ 4728 := by
  have h1 : ∀ u ∈ fmtL (g.ids.take v) (g.ports.take v), u.length ≤ 196 := by
    intro u hu
    have : fmtL (g.ids.take v) (g.ports.take v) = (fmtL g.ids g.ports).take v := by unfold fmtL; rw [List.take_zipWith]
    rw [this] at hu
    exact (fmtL_len h).2 u (List.mem_of_mem_take hu)
  have h2 := unlines_len (n := 196) h1
  have h3 : (fmtL (g.ids.take v) (g.ports.take v)).length ≤ 24 := by
    have := h.2.2.2.1
    unfold fmtL
    rw [List.length_zipWith, List.length_take]
    omega
  have h4 : (fmtL (g.ids.take v) (g.ports.take v)).length * (196 + 1) ≤ 24 * 197 := Nat.mul_le_mul h3 (by omega)
  unfold outV
  omega
theorem outI_len {x : Int} {ls : List Lk} {i : Nat} (hx : 0 ≤ x ∧ x < 1000) (hl : ls.length ≤ 23) (h : ∀ l ∈ ls, 0 ≤ l.1 ∧ l.1 < 1000 ∧ 0 ≤ l.2 ∧ l.2 < 1000) : (outI x ls i).length ≤ 196 := by
  have := lineW_len (x := x) (ls := ls.take i) hx (by simp; omega) (fun l hl => h l (List.mem_of_mem_take hl))
  exact this
def fmtA (o : Bs) (e : Int) : AV := .tup [strA (ba o), i64 e]
def formatR (g : GraphD) : AV := fmtA (if validG g then formatF g else []) (if validG g then 0 else 1)
theorem rformat_con (g : GraphD) (hg : midG g) : Con Tryd.prog 10 [encG g] (formatR g) := by
  refine con_of Tryd.func10 rfl rfl Tryd.ntmps10 Tryd.results10 rfl rfl ?_
  (repeat (first | refine L_int tok rfl (by constructor <;> omega) rfl rfl ?_ | refine L_lenMap tok rfl rfl rfl rfl ?_ | refine L_calm tok rfl rfl rfl ?_ | refine L_nil ?_ | refine A_seq ?_ | refine A_region (lf := lfT) ?_ | refine A_region_drawn (lf := lf0) mixed (by kernel_rfl) rfl ?_ | refine L_skip rfl rfl ?_ | refine L_box rfl rfl rfl rfl rfl rfl rfl rfl ?_ | refine L_alloc tok rfl rfl rfl rfl rfl rfl rfl ?_ | refine L_store tok rfl rfl rfl rfl rfl rfl rfl rfl rfl ?_ | refine L_build tok rfl rfl rfl rfl rfl rfl ?_ | refine L_buildSlice tok rfl rfl rfl rfl rfl rfl rfl rfl rfl ?_ | refine L_makeFunc rfl rfl rfl ?_ | with_reducible refine inblk_n ?_ | with_reducible refine then_n ?_ | refine A_block ?_ | refine A_skip ?_ | refine A_exit ?_ | refine A_cond (b := true) rfl (fun _ => ?_) (fun h => by cases h) | refine A_cond (b := false) rfl (fun h => by cases h) (fun _ => ?_) | refine L_index tok rfl rfl rfl (by omega) (row_map (by assumption)) rfl rfl ?_ | refine L_index tok rfl rfl rfl (by omega) (row_mapI (by assumption)) rfl rfl ?_ | refine L_call rfl rfl (rvalid_con' g hg) rfl rfl ?_))
  refine A_cond rfl (fun h => ?_) (fun h => ?_)
  · simp at h
    (repeat (first | refine L_int tok rfl (by constructor <;> omega) rfl rfl ?_ | refine L_lenMap tok rfl rfl rfl rfl ?_ | refine L_calm tok rfl rfl rfl ?_ | refine L_nil ?_ | refine A_seq ?_ | refine A_region (lf := lfT) ?_ | refine A_region_drawn (lf := lf0) mixed (by kernel_rfl) rfl ?_ | refine L_skip rfl rfl ?_ | refine L_box rfl rfl rfl rfl rfl rfl rfl rfl ?_ | refine L_alloc tok rfl rfl rfl rfl rfl rfl rfl ?_ | refine L_store tok rfl rfl rfl rfl rfl rfl rfl rfl rfl ?_ | refine L_build tok rfl rfl rfl rfl rfl rfl ?_ | refine L_buildSlice tok rfl rfl rfl rfl rfl rfl rfl rfl rfl ?_ | refine L_makeFunc rfl rfl rfl ?_ | with_reducible refine inblk_n ?_ | with_reducible refine then_n ?_ | refine A_block ?_ | refine A_skip ?_ | refine A_exit ?_ | refine A_cond (b := true) rfl (fun _ => ?_) (fun h => by cases h) | refine A_cond (b := false) rfl (fun h => by cases h) (fun _ => ?_) | refine L_index tok rfl rfl rfl (by omega) (row_map (by assumption)) rfl rfl ?_ | refine L_index tok rfl rfl rfl (by omega) (row_mapI (by assumption)) rfl rfl ?_))
    refine A_ret ?_; refine ⟨_, rfl, ?_⟩
    unfold formatR
    rw [h]
    exact Frz.pure
  simp at h
  have hok := GOk_of h
  have hlen := hok.1
  have hn := hok.2.2.2.1
  (repeat (first | refine L_int tok rfl (by constructor <;> omega) rfl rfl ?_ | refine L_lenMap tok rfl rfl rfl rfl ?_ | refine L_calm tok rfl rfl rfl ?_ | refine L_nil ?_ | refine A_seq ?_ | refine A_region (lf := lfT) ?_ | refine A_region_drawn (lf := lf0) mixed (by kernel_rfl) rfl ?_ | refine L_skip rfl rfl ?_ | refine L_box rfl rfl rfl rfl rfl rfl rfl rfl ?_ | refine L_alloc tok rfl rfl rfl rfl rfl rfl rfl ?_ | refine L_store tok rfl rfl rfl rfl rfl rfl rfl rfl rfl ?_ | refine L_build tok rfl rfl rfl rfl rfl rfl ?_ | refine L_buildSlice tok rfl rfl rfl rfl rfl rfl rfl rfl rfl ?_ | refine L_makeFunc rfl rfl rfl ?_ | with_reducible refine inblk_n ?_ | with_reducible refine then_n ?_ | refine A_block ?_ | refine A_skip ?_ | refine A_exit ?_ | refine A_cond (b := true) rfl (fun _ => ?_) (fun h => by cases h) | refine A_cond (b := false) rfl (fun h => by cases h) (fun _ => ?_) | refine L_index tok rfl rfl rfl (by omega) (row_map (by assumption)) rfl rfl ?_ | refine L_index tok rfl rfl rfl (by omega) (row_mapI (by assumption)) rfl rfl ?_))
  refine A_inv (α := Nat) (fun v => [(5, i64 v), (4, strA (ba (outV v g))), (1, .lp 1 0)]) (fun k => [(1, some (.cells [encInts g.ids, encPorts g.ports]))]) (fun v => g.ports.length - v) (fun v => v ≤ g.ports.length) 0 (by omega) (by (repeat (first | exact subT_nil | refine subT_cons rfl ?_))) (by first | exact subH_nil | exact subH_cons rfl subH_nil | exact subH_cons rfl (subH_cons rfl subH_nil) | exact subH_cons rfl (subH_cons rfl (subH_cons rfl subH_nil)) | exact subH_cons rfl (subH_cons rfl (subH_cons rfl (subH_cons rfl subH_nil)))) ?_
  intro v hv
  have hol := outV_len (v := v) hok
  (repeat (first | refine L_int tok rfl (by constructor <;> omega) rfl rfl ?_ | refine L_lenMap tok rfl rfl rfl rfl ?_ | refine L_calm tok rfl rfl rfl ?_ | refine L_nil ?_ | refine A_seq ?_ | refine A_region (lf := lfT) ?_ | refine A_region_drawn (lf := lf0) mixed (by kernel_rfl) rfl ?_ | refine L_skip rfl rfl ?_ | refine L_box rfl rfl rfl rfl rfl rfl rfl rfl ?_ | refine L_alloc tok rfl rfl rfl rfl rfl rfl rfl ?_ | refine L_store tok rfl rfl rfl rfl rfl rfl rfl rfl rfl ?_ | refine L_build tok rfl rfl rfl rfl rfl rfl ?_ | refine L_buildSlice tok rfl rfl rfl rfl rfl rfl rfl rfl rfl ?_ | refine L_makeFunc rfl rfl rfl ?_ | with_reducible refine inblk_n ?_ | with_reducible refine then_n ?_ | refine A_block ?_ | refine A_skip ?_ | refine A_exit ?_ | refine A_cond (b := true) rfl (fun _ => ?_) (fun h => by cases h) | refine A_cond (b := false) rfl (fun h => by cases h) (fun _ => ?_) | refine L_index tok rfl rfl rfl (by omega) (row_map (by assumption)) rfl rfl ?_ | refine L_index tok rfl rfl rfl (by omega) (row_mapI (by assumption)) rfl rfl ?_))
  refine A_cond rfl (fun h1 => ?_) (fun h1 => ?_)
  · simp at h1
    obtain ⟨x, hx⟩ := getN (show v < g.ids.length by omega)
    obtain ⟨ls, hls⟩ := getN h1
    have hxb := hok.2.1 x (List.mem_of_getElem? hx)
    have hlb := hok.2.2.1 ls (List.mem_of_getElem? hls)
    have hdl := dec_len 3 x.toNat (by omega) (by omega)
    (repeat (first | refine L_int tok rfl (by constructor <;> omega) rfl rfl ?_ | refine L_lenMap tok rfl rfl rfl rfl ?_ | refine L_calm tok rfl rfl rfl ?_ | refine L_nil ?_ | refine A_seq ?_ | refine A_region (lf := lfT) ?_ | refine A_region_drawn (lf := lf0) mixed (by kernel_rfl) rfl ?_ | refine L_skip rfl rfl ?_ | refine L_box rfl rfl rfl rfl rfl rfl rfl rfl ?_ | refine L_alloc tok rfl rfl rfl rfl rfl rfl rfl ?_ | refine L_store tok rfl rfl rfl rfl rfl rfl rfl rfl rfl ?_ | refine L_build tok rfl rfl rfl rfl rfl rfl ?_ | refine L_buildSlice tok rfl rfl rfl rfl rfl rfl rfl rfl rfl ?_ | refine L_makeFunc rfl rfl rfl ?_ | with_reducible refine inblk_n ?_ | with_reducible refine then_n ?_ | refine A_block ?_ | refine A_skip ?_ | refine A_exit ?_ | refine A_cond (b := true) rfl (fun _ => ?_) (fun h => by cases h) | refine A_cond (b := false) rfl (fun h => by cases h) (fun _ => ?_) | refine L_index tok rfl rfl rfl (by omega) (row_map (by assumption)) rfl rfl ?_ | refine L_index tok rfl rfl rfl (by omega) (row_mapI (by assumption)) rfl rfl ?_))
    refine L_call rfl rfl (decimal_con x (by omega)) rfl rfl ?_
    (repeat (first | refine L_int tok rfl (by constructor <;> omega) rfl rfl ?_ | refine L_lenMap tok rfl rfl rfl rfl ?_ | refine L_calm tok rfl rfl rfl ?_ | refine L_nil ?_ | refine A_seq ?_ | refine A_region (lf := lfT) ?_ | refine A_region_drawn (lf := lf0) mixed (by kernel_rfl) rfl ?_ | refine L_skip rfl rfl ?_ | refine L_box rfl rfl rfl rfl rfl rfl rfl rfl ?_ | refine L_alloc tok rfl rfl rfl rfl rfl rfl rfl ?_ | refine L_store tok rfl rfl rfl rfl rfl rfl rfl rfl rfl ?_ | refine L_build tok rfl rfl rfl rfl rfl rfl ?_ | refine L_buildSlice tok rfl rfl rfl rfl rfl rfl rfl rfl rfl ?_ | refine L_makeFunc rfl rfl rfl ?_ | with_reducible refine inblk_n ?_ | with_reducible refine then_n ?_ | refine A_block ?_ | refine A_skip ?_ | refine A_exit ?_ | refine A_cond (b := true) rfl (fun _ => ?_) (fun h => by cases h) | refine A_cond (b := false) rfl (fun h => by cases h) (fun _ => ?_) | refine L_index tok rfl rfl rfl (by omega) (row_map (by assumption)) rfl rfl ?_ | refine L_index tok rfl rfl rfl (by omega) (row_mapI (by assumption)) rfl rfl ?_))
    refine L_concat (a := ba (nodeW ++ [32])) rfl rfl (by rw [ba_size, ba_size]; simp [nodeW]; omega) rfl rfl ?_
    rw [ba_app]
    refine L_concat rfl rfl (by rw [ba_size, ba_size]; simp [nodeW]; omega) rfl rfl ?_
    rw [ba_app]
    (repeat (first | refine L_int tok rfl (by constructor <;> omega) rfl rfl ?_ | refine L_lenMap tok rfl rfl rfl rfl ?_ | refine L_calm tok rfl rfl rfl ?_ | refine L_nil ?_ | refine A_seq ?_ | refine A_region (lf := lfT) ?_ | refine A_region_drawn (lf := lf0) mixed (by kernel_rfl) rfl ?_ | refine L_skip rfl rfl ?_ | refine L_box rfl rfl rfl rfl rfl rfl rfl rfl ?_ | refine L_alloc tok rfl rfl rfl rfl rfl rfl rfl ?_ | refine L_store tok rfl rfl rfl rfl rfl rfl rfl rfl rfl ?_ | refine L_build tok rfl rfl rfl rfl rfl rfl ?_ | refine L_buildSlice tok rfl rfl rfl rfl rfl rfl rfl rfl rfl ?_ | refine L_makeFunc rfl rfl rfl ?_ | with_reducible refine inblk_n ?_ | with_reducible refine then_n ?_ | refine A_block ?_ | refine A_skip ?_ | refine A_exit ?_ | refine A_cond (b := true) rfl (fun _ => ?_) (fun h => by cases h) | refine A_cond (b := false) rfl (fun h => by cases h) (fun _ => ?_) | refine L_index tok rfl rfl rfl (by omega) (row_map (by assumption)) rfl rfl ?_ | refine L_index tok rfl rfl rfl (by omega) (row_mapI (by assumption)) rfl rfl ?_))
    refine A_inv (α := Nat) (fun i => [(6, i64 i), (5, i64 v), (4, strA (ba (outV v g ++ outI x ls i))), (1, .lp 1 0)]) (fun k => [(1, some (.cells [encInts g.ids, encPorts g.ports]))]) (fun i => ls.length - i) (fun i => i ≤ ls.length) 0 (by omega) ?_ (by first | exact subH_nil | exact subH_cons rfl subH_nil | exact subH_cons rfl (subH_cons rfl subH_nil) | exact subH_cons rfl (subH_cons rfl (subH_cons rfl subH_nil)) | exact subH_cons rfl (subH_cons rfl (subH_cons rfl (subH_cons rfl subH_nil)))) ?_
    · refine subT_cons rfl (subT_cons rfl (subT_cons (some_av rfl (str_eq ?_)) (by (repeat (first | exact subT_nil | refine subT_cons rfl ?_)))))
      simp [outI, glue]
    intro i hi
    have hoi := outI_len (i := i) hxb hlb.1 hlb.2
    (repeat (first | refine L_int tok rfl (by constructor <;> omega) rfl rfl ?_ | refine L_lenMap tok rfl rfl rfl rfl ?_ | refine L_calm tok rfl rfl rfl ?_ | refine L_nil ?_ | refine A_seq ?_ | refine A_region (lf := lfT) ?_ | refine A_region_drawn (lf := lf0) mixed (by kernel_rfl) rfl ?_ | refine L_skip rfl rfl ?_ | refine L_box rfl rfl rfl rfl rfl rfl rfl rfl ?_ | refine L_alloc tok rfl rfl rfl rfl rfl rfl rfl ?_ | refine L_store tok rfl rfl rfl rfl rfl rfl rfl rfl rfl ?_ | refine L_build tok rfl rfl rfl rfl rfl rfl ?_ | refine L_buildSlice tok rfl rfl rfl rfl rfl rfl rfl rfl rfl ?_ | refine L_makeFunc rfl rfl rfl ?_ | with_reducible refine inblk_n ?_ | with_reducible refine then_n ?_ | refine A_block ?_ | refine A_skip ?_ | refine A_exit ?_ | refine A_cond (b := true) rfl (fun _ => ?_) (fun h => by cases h) | refine A_cond (b := false) rfl (fun h => by cases h) (fun _ => ?_) | refine L_index tok rfl rfl rfl (by omega) (row_map (by assumption)) rfl rfl ?_ | refine L_index tok rfl rfl rfl (by omega) (row_mapI (by assumption)) rfl rfl ?_))
    refine A_cond rfl (fun h2 => ?_) (fun h2 => ?_)
    · simp at h2
      obtain ⟨l, hl⟩ := getN h2
      have hll := hlb.2 l (List.mem_of_getElem? hl)
      have hd1 := dec_len 3 l.1.toNat (by omega) (by omega)
      have hd2 := dec_len 3 l.2.toNat (by omega) (by omega)
      (repeat (first | refine L_int tok rfl (by constructor <;> omega) rfl rfl ?_ | refine L_lenMap tok rfl rfl rfl rfl ?_ | refine L_calm tok rfl rfl rfl ?_ | refine L_nil ?_ | refine A_seq ?_ | refine A_region (lf := lfT) ?_ | refine A_region_drawn (lf := lf0) mixed (by kernel_rfl) rfl ?_ | refine L_skip rfl rfl ?_ | refine L_box rfl rfl rfl rfl rfl rfl rfl rfl ?_ | refine L_alloc tok rfl rfl rfl rfl rfl rfl rfl ?_ | refine L_store tok rfl rfl rfl rfl rfl rfl rfl rfl rfl ?_ | refine L_build tok rfl rfl rfl rfl rfl rfl ?_ | refine L_buildSlice tok rfl rfl rfl rfl rfl rfl rfl rfl rfl ?_ | refine L_makeFunc rfl rfl rfl ?_ | with_reducible refine inblk_n ?_ | with_reducible refine then_n ?_ | refine A_block ?_ | refine A_skip ?_ | refine A_exit ?_ | refine A_cond (b := true) rfl (fun _ => ?_) (fun h => by cases h) | refine A_cond (b := false) rfl (fun h => by cases h) (fun _ => ?_) | refine L_index tok rfl rfl rfl (by omega) (row_map (by assumption)) rfl rfl ?_ | refine L_index tok rfl rfl rfl (by omega) (row_mapI (by assumption)) rfl rfl ?_))
      refine L_call rfl rfl (decimal_con l.1 (by omega)) rfl rfl ?_
      refine L_concat (a := ba [32]) rfl rfl (by rw [ba_size, ba_size]; simp; omega) rfl rfl ?_
      rw [ba_app]
      refine L_concat (b := ba [47]) rfl rfl (by rw [ba_size, ba_size]; simp; omega) rfl rfl ?_
      rw [ba_app]
      (repeat (first | refine L_int tok rfl (by constructor <;> omega) rfl rfl ?_ | refine L_lenMap tok rfl rfl rfl rfl ?_ | refine L_calm tok rfl rfl rfl ?_ | refine L_nil ?_ | refine A_seq ?_ | refine A_region (lf := lfT) ?_ | refine A_region_drawn (lf := lf0) mixed (by kernel_rfl) rfl ?_ | refine L_skip rfl rfl ?_ | refine L_box rfl rfl rfl rfl rfl rfl rfl rfl ?_ | refine L_alloc tok rfl rfl rfl rfl rfl rfl rfl ?_ | refine L_store tok rfl rfl rfl rfl rfl rfl rfl rfl rfl ?_ | refine L_build tok rfl rfl rfl rfl rfl rfl ?_ | refine L_buildSlice tok rfl rfl rfl rfl rfl rfl rfl rfl rfl ?_ | refine L_makeFunc rfl rfl rfl ?_ | with_reducible refine inblk_n ?_ | with_reducible refine then_n ?_ | refine A_block ?_ | refine A_skip ?_ | refine A_exit ?_ | refine A_cond (b := true) rfl (fun _ => ?_) (fun h => by cases h) | refine A_cond (b := false) rfl (fun h => by cases h) (fun _ => ?_) | refine L_index tok rfl rfl rfl (by omega) (row_map (by assumption)) rfl rfl ?_ | refine L_index tok rfl rfl rfl (by omega) (row_mapI (by assumption)) rfl rfl ?_))
      refine L_call rfl rfl (decimal_con l.2 (by omega)) rfl rfl ?_
      refine L_concat rfl rfl (by rw [ba_size, ba_size]; simp; omega) rfl rfl ?_
      rw [ba_app]
      refine L_concat rfl rfl (by rw [ba_size, ba_size]; simp; omega) rfl rfl ?_
      rw [ba_app]
      (repeat (first | refine L_int tok rfl (by constructor <;> omega) rfl rfl ?_ | refine L_lenMap tok rfl rfl rfl rfl ?_ | refine L_calm tok rfl rfl rfl ?_ | refine L_nil ?_ | refine A_seq ?_ | refine A_region (lf := lfT) ?_ | refine A_region_drawn (lf := lf0) mixed (by kernel_rfl) rfl ?_ | refine L_skip rfl rfl ?_ | refine L_box rfl rfl rfl rfl rfl rfl rfl rfl ?_ | refine L_alloc tok rfl rfl rfl rfl rfl rfl rfl ?_ | refine L_store tok rfl rfl rfl rfl rfl rfl rfl rfl rfl ?_ | refine L_build tok rfl rfl rfl rfl rfl rfl ?_ | refine L_buildSlice tok rfl rfl rfl rfl rfl rfl rfl rfl rfl ?_ | refine L_makeFunc rfl rfl rfl ?_ | with_reducible refine inblk_n ?_ | with_reducible refine then_n ?_ | refine A_block ?_ | refine A_skip ?_ | refine A_exit ?_ | refine A_cond (b := true) rfl (fun _ => ?_) (fun h => by cases h) | refine A_cond (b := false) rfl (fun h => by cases h) (fun _ => ?_) | refine L_index tok rfl rfl rfl (by omega) (row_map (by assumption)) rfl rfl ?_ | refine L_index tok rfl rfl rfl (by omega) (row_mapI (by assumption)) rfl rfl ?_))
      refine rnd (i + 1) (by omega) (by omega) ?_ (by first | exact subH_nil | exact subH_cons rfl subH_nil | exact subH_cons rfl (subH_cons rfl subH_nil) | exact subH_cons rfl (subH_cons rfl (subH_cons rfl subH_nil)) | exact subH_cons rfl (subH_cons rfl (subH_cons rfl (subH_cons rfl subH_nil))))
      refine subT_cons rfl (subT_cons rfl (subT_cons (some_av rfl (str_eq ?_)) (by (repeat (first | exact subT_nil | refine subT_cons rfl ?_)))))
      rw [outI_next hl]
      simp [lkW]
    · simp at h2
      obtain rfl : i = ls.length := by omega
      (repeat (first | refine L_int tok rfl (by constructor <;> omega) rfl rfl ?_ | refine L_lenMap tok rfl rfl rfl rfl ?_ | refine L_calm tok rfl rfl rfl ?_ | refine L_nil ?_ | refine A_seq ?_ | refine A_region (lf := lfT) ?_ | refine A_region_drawn (lf := lf0) mixed (by kernel_rfl) rfl ?_ | refine L_skip rfl rfl ?_ | refine L_box rfl rfl rfl rfl rfl rfl rfl rfl ?_ | refine L_alloc tok rfl rfl rfl rfl rfl rfl rfl ?_ | refine L_store tok rfl rfl rfl rfl rfl rfl rfl rfl rfl ?_ | refine L_build tok rfl rfl rfl rfl rfl rfl ?_ | refine L_buildSlice tok rfl rfl rfl rfl rfl rfl rfl rfl rfl ?_ | refine L_makeFunc rfl rfl rfl ?_ | with_reducible refine inblk_n ?_ | with_reducible refine then_n ?_ | refine A_block ?_ | refine A_skip ?_ | refine A_exit ?_ | refine A_cond (b := true) rfl (fun _ => ?_) (fun h => by cases h) | refine A_cond (b := false) rfl (fun h => by cases h) (fun _ => ?_) | refine L_index tok rfl rfl rfl (by omega) (row_map (by assumption)) rfl rfl ?_ | refine L_index tok rfl rfl rfl (by omega) (row_mapI (by assumption)) rfl rfl ?_ | refine L_concat (b := ba [10]) rfl rfl (by rw [ba_size, ba_size]; simp; omega) rfl rfl ?_))
      refine rnd (v + 1) (by omega) (by omega) ?_ (by first | exact subH_nil | exact subH_cons rfl subH_nil | exact subH_cons rfl (subH_cons rfl subH_nil) | exact subH_cons rfl (subH_cons rfl (subH_cons rfl subH_nil)) | exact subH_cons rfl (subH_cons rfl (subH_cons rfl (subH_cons rfl subH_nil))))
      refine subT_cons rfl (subT_cons (some_av rfl (str_eq ?_)) (by (repeat (first | exact subT_nil | refine subT_cons rfl ?_))))
      rw [ba_app, outV_next hx hls]
      simp [outI, lineW]
  · simp at h1
    obtain rfl : v = g.ports.length := by omega
    (repeat (first | refine L_int tok rfl (by constructor <;> omega) rfl rfl ?_ | refine L_lenMap tok rfl rfl rfl rfl ?_ | refine L_calm tok rfl rfl rfl ?_ | refine L_nil ?_ | refine A_seq ?_ | refine A_region (lf := lfT) ?_ | refine A_region_drawn (lf := lf0) mixed (by kernel_rfl) rfl ?_ | refine L_skip rfl rfl ?_ | refine L_box rfl rfl rfl rfl rfl rfl rfl rfl ?_ | refine L_alloc tok rfl rfl rfl rfl rfl rfl rfl ?_ | refine L_store tok rfl rfl rfl rfl rfl rfl rfl rfl rfl ?_ | refine L_build tok rfl rfl rfl rfl rfl rfl ?_ | refine L_buildSlice tok rfl rfl rfl rfl rfl rfl rfl rfl rfl ?_ | refine L_makeFunc rfl rfl rfl ?_ | with_reducible refine inblk_n ?_ | with_reducible refine then_n ?_ | refine A_block ?_ | refine A_skip ?_ | refine A_exit ?_ | refine A_cond (b := true) rfl (fun _ => ?_) (fun h => by cases h) | refine A_cond (b := false) rfl (fun h => by cases h) (fun _ => ?_) | refine L_index tok rfl rfl rfl (by omega) (row_map (by assumption)) rfl rfl ?_ | refine L_index tok rfl rfl rfl (by omega) (row_mapI (by assumption)) rfl rfl ?_))
    refine A_ret ?_; refine ⟨_, rfl, ?_⟩
    refine frz_eq ?_
    unfold formatR
    rw [if_pos h, if_pos h]
    unfold outV fmtA formatF
    rw [List.take_length, ← hlen, List.take_length]
    rfl
end Go.Proofs.YtkjcjenkepejgaaDoor
