/- Part 21 of the texts under MemoryRanks,MemoryChanges,MemoryCarries,MemoryCorruptsNamedNodes,MemoryCarriesToItself: joined, with what it needs alone. -/
import Derived.Test.YtenajilnjeafpaaGreatL18
import Derived.Test.YtenajilnjeafpaaGreatL19
import Derived.Test.YtenajilnjeafpaaGreatL20
set_option linter.unusedVariables false
set_option maxRecDepth 100000
set_option maxHeartbeats 8000000
namespace Go.Proofs.YtenajilnjeafpaaGreat
open Go.RowKit
theorem rleast_own (p : ProgD) (g : GraphD) (hf : Fair p g) (h0 : fitsF p g = 0) : ConM Tryz.prog 12 [encP p, encG g] (fun _ => none) (.tup [.ls 7 1 (tableF p g).length, i64 0]) (hlook (matH 7 1 (matR (lowC (tableF p g))) [])) := by
  have hgl := hf.glen
  have hvl := hf.vlen
  have hends := tends_con p g hf h0
  have htl : (tableF p g).length = g.ports.length := by simp [tableF]
  have hw : ∀ (v : Nat) (r : List (Int × Int)), (tableF p g)[v]? = some r → r.length = p.vars.length := fun v r h => table_row h
  refine conO_of tok Tryz.func12 rfl rfl Tryz.ntmps12 Tryz.results12 rfl rfl ?_
  (repeat (first | refine zI ?_ | refine zL ?_ | refine zC ?_ | refine L_nil ?_ | refine A_seq ?_ | refine zR ?_ | refine zD ?_ | refine zK ?_ | refine zB ?_ | refine zA ?_ | refine zS ?_ | refine zU ?_ | refine zV ?_ | refine zF ?_ | with_reducible refine inblk_n ?_ | with_reducible refine then_n ?_ | refine A_block ?_ | refine A_skip ?_ | refine A_exit ?_ | refine zT ?_ | refine zE ?_ | refine zX ?_ | refine L_call rfl rfl (rfits_con p g hf) rfl rfl ?_))
  refine A_cond rfl (fun h => ?_) (fun h => ?_)
  · simp [h0] at h
  (repeat (first | refine zI ?_ | refine zL ?_ | refine zC ?_ | refine L_nil ?_ | refine A_seq ?_ | refine zR ?_ | refine zD ?_ | refine zK ?_ | refine zB ?_ | refine zA ?_ | refine zS ?_ | refine zU ?_ | refine zV ?_ | refine zF ?_ | with_reducible refine inblk_n ?_ | with_reducible refine then_n ?_ | refine A_block ?_ | refine A_skip ?_ | refine A_exit ?_ | refine zT ?_ | refine zE ?_ | refine zX ?_))
  generalize htb : tableF p g = tbl at hends htl hw
  refine A_own 7 7 1 rfl rfl rfl ?_
  refine A_invS (α := Nat) (fun v => [(8, i64 v), (7, .ls 7 1 v), (2, .lp 2 0), (3, .lp 3 0)]) (fun v => pgF p g 2 3 ++ matH 7 1 (matR ((lowC tbl).take v)) []) (fun v => tbl.length - v) (fun v => v ≤ tbl.length) 0 (by omega) (by (repeat (first | exact subT_nil | refine subT_cons rfl ?_))) (subH_look (by simp only [List.take_zero, matR, List.map_nil, matH, matC, famL, List.nil_append]; exact subH_cons rfl (subH_cons rfl (subH_cons rfl subH_nil)))) ?_
  intro v hv
  (repeat (first | refine zI ?_ | refine zL ?_ | refine zC ?_ | refine L_nil ?_ | refine A_seq ?_ | refine zR ?_ | refine zD ?_ | refine zK ?_ | refine zB ?_ | refine zA ?_ | refine zS ?_ | refine zU ?_ | refine zV ?_ | refine zF ?_ | with_reducible refine inblk_n ?_ | with_reducible refine then_n ?_ | refine A_block ?_ | refine A_skip ?_ | refine A_exit ?_ | refine zT ?_ | refine zE ?_ | refine zX ?_))
  refine A_cond rfl (fun h3 => ?_) (fun h3 => ?_)
  · simp at h3
    obtain ⟨r, hr⟩ := getN (show v < tbl.length by omega)
    have hrl := hw v r hr
    have htk : (matR ((lowC tbl).take v)).length = v := by simp [matR, lowC]; omega
    (repeat (first | refine zI ?_ | refine zL ?_ | refine zC ?_ | refine L_nil ?_ | refine A_seq ?_ | refine zR ?_ | refine zD ?_ | refine zK ?_ | refine zB ?_ | refine zA ?_ | refine zS ?_ | refine zU ?_ | refine zV ?_ | refine zF ?_ | with_reducible refine inblk_n ?_ | with_reducible refine then_n ?_ | refine A_block ?_ | refine A_skip ?_ | refine A_exit ?_ | refine zT ?_ | refine zE ?_ | refine zX ?_))
    refine A_own 9 9 1 rfl rfl (freshM (f := pgF p g 2 3) rfl rfl rfl rfl) ?_
    refine A_invS (α := Nat) (fun j => [(10, i64 j), (9, .ls 9 1 j), (8, i64 v), (7, .ls 7 1 v), (2, .lp 2 0), (3, .lp 3 0)]) (fun j => (9, some (.vec (((r.map (·.1)).take j).map i64))) :: (pgF p g 2 3 ++ matH 7 1 (matR ((lowC tbl).take v)) [])) (fun j => r.length - j) (fun j => j ≤ r.length) 0 (by omega) (by (repeat (first | exact subT_nil | refine subT_cons rfl ?_))) (fun id o h => h) ?_
    intro j hj
    (repeat (first | refine zI ?_ | refine zL ?_ | refine zC ?_ | refine L_nil ?_ | refine A_seq ?_ | refine zR ?_ | refine zD ?_ | refine zK ?_ | refine zB ?_ | refine zA ?_ | refine zS ?_ | refine zU ?_ | refine zV ?_ | refine zF ?_ | with_reducible refine inblk_n ?_ | with_reducible refine then_n ?_ | refine A_block ?_ | refine A_skip ?_ | refine A_exit ?_ | refine zT ?_ | refine zE ?_ | refine zX ?_))
    refine A_cond rfl (fun h4 => ?_) (fun h4 => ?_)
    · simp at h4
      obtain ⟨b, hb⟩ := getN (show j < r.length by omega)
      have hlow : (r.map (·.1))[j]? = some b.1 := by rw [List.getElem?_map, hb]; rfl
      (repeat (first | refine zI ?_ | refine zL ?_ | refine zC ?_ | refine L_nil ?_ | refine A_seq ?_ | refine zR ?_ | refine zD ?_ | refine zK ?_ | refine zB ?_ | refine zA ?_ | refine zS ?_ | refine zU ?_ | refine zV ?_ | refine zF ?_ | with_reducible refine inblk_n ?_ | with_reducible refine then_n ?_ | refine A_block ?_ | refine A_skip ?_ | refine A_exit ?_ | refine zT ?_ | refine zE ?_ | refine zX ?_ | refine L_call rfl rfl (hends v j r b hr hb) rfl rfl ?_ | refine L_appendV tok (id := 9) (t' := [(10, i64 j), (8, i64 v), (7, .ls 7 1 v), (2, .lp 2 0), (3, .lp 3 0)]) rfl rfl (by simp; omega) rfl (by intro c hc; simp at hc; subst hc; rfl) (by constructor <;> simp <;> omega) (by (repeat (first | exact subTM_nil | refine subTM_cons rfl rfl ?_))) (freshM (f := pgF p g 2 3) rfl rfl rfl rfl) rfl rfl rfl ?_))
      refine rndS (j + 1) (by omega) (by omega) (by (repeat (first | exact subT_nil | refine subT_cons rfl ?_))) (hsE ?_)
      rw [take_snocM hlow, List.map_append]; rfl
    · simp at h4
      obtain rfl : j = r.length := by omega
      (repeat (first | with_reducible refine then_n ?_ | with_reducible refine inblk_n ?_ | refine A_skip ?_ | refine A_exit ?_))
      have hlr : (r.map (·.1)).take r.length = r.map (·.1) := List.take_of_length_le (by simp)
      rw [hlr]
      refine A_rename 9 9 (fam 7 v) (t' := [(8, i64 v), (7, .ls 7 1 v), (2, .lp 2 0), (3, .lp 3 0)]) (h' := (fam 7 v, some (.vec ((r.map (·.1)).map i64))) :: (pgF p g 2 3 ++ matH 7 1 (matR ((lowC tbl).take v)) [])) rfl hlook_eq ?_ (by (repeat (first | exact subT_nil | refine subT_cons rfl ?_))) hlook_eq ?_ ?_
      · refine fresh_fam (f := (9, some (.vec ((r.map (·.1)).map i64))) :: pgF p g 2 3) ?_ ?_ ?_ ?_ ?_
        · rfl
        · rfl
        · rfl
        · exact htk.symm
        · rfl
      · intro j ob hj ho
        rw [hlook_ne hj] at ho
        have hj9 : j ≠ 9 := by
          rintro rfl
          rw [(freshH_look (freshM (d := 9) (f := pgF p g 2 3) (M := 7) (extra := []) rfl rfl rfl rfl)).1] at ho
          cases ho
        exact ⟨hj9, by rw [hlook_ne hj9]; exact ho⟩
      (repeat (first | refine zI ?_ | refine zL ?_ | refine zC ?_ | refine L_nil ?_ | refine A_seq ?_ | refine zR ?_ | refine zD ?_ | refine zK ?_ | refine zB ?_ | refine zA ?_ | refine zS ?_ | refine zU ?_ | refine zV ?_ | refine zF ?_ | with_reducible refine inblk_n ?_ | with_reducible refine then_n ?_ | refine A_block ?_ | refine A_skip ?_ | refine A_exit ?_ | refine zT ?_ | refine zE ?_ | refine zX ?_))
      refine L_buildM tok 47 rfl rfl rfl rfl rfl rfl (fresh_of (freshT_cons (ment_fam rfl) (freshT_cons rfl (freshT_cons (ment_fam rfl) rfl))) (freshH_cons (fam_ne (by omega)) rfl (freshM (f := pgF p g 2 3) rfl rfl rfl rfl))) (mentL_of_all (by intro x hx; rcases List.mem_singleton.1 hx with rfl; exact ment_fam rfl)) rfl rfl rfl ?_
      refine L_appendRow tok (f := pgF p g 2 3) (t' := [(8, i64 v), (2, .lp 2 0), (3, .lp 3 0)]) rfl rfl rfl rfl rfl rfl rfl rfl rfl rfl htk.symm (by simp) (by constructor <;> omega) (by (repeat (first | exact subTM_nil | refine subTM_cons rfl rfl ?_))) rfl rfl rfl ?_
      (repeat (first | refine zI ?_ | refine zL ?_ | refine zC ?_ | refine L_nil ?_ | refine A_seq ?_ | refine zR ?_ | refine zD ?_ | refine zK ?_ | refine zB ?_ | refine zA ?_ | refine zS ?_ | refine zU ?_ | refine zV ?_ | refine zF ?_ | with_reducible refine inblk_n ?_ | with_reducible refine then_n ?_ | refine A_block ?_ | refine A_skip ?_ | refine A_exit ?_ | refine zT ?_ | refine zE ?_ | refine zX ?_))
      refine rndS (v + 1) (by omega) (by omega) (by (repeat (first | exact subT_nil | refine subT_cons rfl ?_))) (hsE ?_)
      have hlv : (lowC tbl)[v]? = some (r.map (·.1)) := by rw [lowC, List.getElem?_map, hr]; rfl
      rw [take_snocM hlv, matR_snoc]
  · simp at h3
    obtain rfl : v = tbl.length := by omega
    (repeat (first | refine zI ?_ | refine zL ?_ | refine zC ?_ | refine L_nil ?_ | refine A_seq ?_ | refine zR ?_ | refine zD ?_ | refine zK ?_ | refine zB ?_ | refine zA ?_ | refine zS ?_ | refine zU ?_ | refine zV ?_ | refine zF ?_ | with_reducible refine inblk_n ?_ | with_reducible refine then_n ?_ | refine A_block ?_ | refine A_skip ?_ | refine A_exit ?_ | refine zT ?_ | refine zE ?_ | refine zX ?_))
    refine A_ret ⟨_, rfl, wk_refl _, fun id o ho => ?_⟩
    rw [List.take_of_length_le (by simp [lowC])]
    exact mat_end (f := pgF p g 2 3) rfl (by omega) rfl id o ho
end Go.Proofs.YtenajilnjeafpaaGreat
set_option linter.unusedVariables false
set_option maxRecDepth 100000
set_option maxHeartbeats 8000000
namespace Go.Proofs.YtenajilnjeafpaaGreat
open Go.RowKit
def wOk (b : Int × Int) : Prop := 1 ≤ rgW b ∧ rgW b ≤ 1000002
theorem rgOk_w {b : Int × Int} (h : RgOk b) : wOk b := by obtain ⟨h1, h2, h3⟩ := h; unfold wOk rgW; omega
def satStep (n : Int) (b : Int × Int) : Int := if (1073741824 : Int) < n * rgW b then 1073741824 else n * rgW b
theorem mul_ge {n w : Int} (h1 : 1 ≤ n) (hw : 1 ≤ w) : n ≤ n * w := by
  have := Int.mul_le_mul_of_nonneg_left hw (show 0 ≤ n by omega); simpa using this
theorem sat_ge : ∀ (r : List (Int × Int)) (n : Int), 1 ≤ n → n ≤ 1073741824 → (∀ b ∈ r, wOk b) → n ≤ r.foldl satStep n ∧ r.foldl satStep n ≤ 1073741824
  | [], n, h1, h2, _ => ⟨Int.le_refl _, h2⟩
  | b :: r, n, h1, h2, hw => by
    have hb := mul_ge h1 (hw b (by simp)).1
    simp only [List.foldl_cons]
    by_cases h : (1073741824 : Int) < n * rgW b
    · rw [satStep, if_pos h]
      have := sat_ge r 1073741824 (by omega) (by omega) fun x hx => hw x (by simp [hx])
      omega
    · rw [satStep, if_neg h]
      have := sat_ge r (n * rgW b) (by omega) (by omega) fun x hx => hw x (by simp [hx])
      omega
theorem sat_cnt : ∀ (r : List (Int × Int)) (n : Int), 1 ≤ n → n ≤ 32768 → (∀ b ∈ r, wOk b) → (∀ q, cntL n r = some q → r.foldl satStep n = q ∧ q ≤ 32768) ∧ (cntL n r = none → 32768 < r.foldl satStep n)
  | [], n, h1, h2, _ => ⟨fun q h => by simp only [cntL, Option.some.injEq] at h; subst h; exact ⟨rfl, h2⟩, fun h => by cases h⟩
  | b :: r, n, h1, h2, hw => by
    have hb := mul_ge h1 (hw b (by simp)).1
    have hr : ∀ x ∈ r, wOk x := fun x hx => hw x (by simp [hx])
    by_cases h : 32768 < n * (b.2 - b.1 + 1)
    · refine ⟨fun q hq => (by simp only [cntL, if_pos h] at hq; cases hq), fun _ => ?_⟩
      simp only [List.foldl_cons, satStep]
      by_cases h3 : (1073741824 : Int) < n * rgW b
      · rw [if_pos h3]
        have := sat_ge r 1073741824 (by omega) (by omega) hr
        omega
      · rw [if_neg h3]
        have := sat_ge r (n * rgW b) (by omega) (by omega) hr
        unfold rgW at this hb h3 ⊢
        omega
    · have e : satStep n b = n * (b.2 - b.1 + 1) := by unfold satStep rgW; rw [if_neg (by omega)]
      have ih := sat_cnt r (n * (b.2 - b.1 + 1)) (by unfold rgW at hb; omega) (by omega) hr
      simp only [List.foldl_cons, cntL, if_neg h, e]
      exact ih
theorem cnt_scale : ∀ (r : List (Int × Int)) (n m : Int), 1 ≤ n → 1 ≤ m → (∀ b ∈ r, wOk b) → n * m ≤ 32768 → cntL (n * m) r = match cntL m r with
    | some q => if 32768 < n * q then none else some (n * q)
    | none => none
  | [], n, m, hn, hm, _, h => by simp only [cntL]; rw [if_neg (by omega)]
  | b :: r, n, m, hn, hm, hw, h => by
    have hb := mul_ge hm (hw b (by simp)).1
    have hr : ∀ x ∈ r, wOk x := fun x hx => hw x (by simp [hx])
    have hnm : n * m * (b.2 - b.1 + 1) = n * (m * (b.2 - b.1 + 1)) := Int.mul_assoc _ _ _
    have hpos : 1 ≤ m * (b.2 - b.1 + 1) := by unfold rgW at hb; omega
    have hle : m * (b.2 - b.1 + 1) ≤ n * (m * (b.2 - b.1 + 1)) := by
      have := Int.mul_le_mul_of_nonneg_right hn (show 0 ≤ m * (b.2 - b.1 + 1) by omega)
      simpa using this
    simp only [cntL]
    rw [hnm]
    by_cases h1 : 32768 < m * (b.2 - b.1 + 1)
    · rw [if_pos h1, if_pos (by omega)]
    · rw [if_neg h1]
      by_cases h2 : 32768 < n * (m * (b.2 - b.1 + 1))
      · rw [if_pos h2]
        cases hq : cntL (m * (b.2 - b.1 + 1)) r with
        | none => rfl
        | some q =>
          have hge : m * (b.2 - b.1 + 1) ≤ q := by
            have e := ((sat_cnt r (m * (b.2 - b.1 + 1)) hpos (by omega) hr).1 q hq).1
            have := (sat_ge r (m * (b.2 - b.1 + 1)) hpos (by omega) hr).1
            omega
          have : n * (m * (b.2 - b.1 + 1)) ≤ n * q := Int.mul_le_mul_of_nonneg_left hge (by omega)
          simp only
          rw [if_pos (by omega)]
      · rw [if_neg h2]
        exact cnt_scale r n _ hn hpos hr (by omega)
theorem size_table {p : ProgD} {g : GraphD} {v : Nat} {r : List (Int × Int)} (h0 : fitsF p g = 0) (hr : (tableF p g)[v]? = some r) : sizeF p g v = r.foldl satStep 1 := by
  simp only [tableF, List.getElem?_map] at hr
  cases hg : g.ports[v]? with
  | none => rw [hg] at hr; cases hr
  | some ls =>
    rw [hg] at hr
    cases hr
    have hv := (List.getElem?_eq_some_iff.1 hg).1
    have hd : degAt g v = ls.length := deg_at (by simpa using hg)
    rw [sizeF, if_pos h0, if_pos (by omega), List.foldl_map, hd]
    rfl
theorem rcount_con (p : ProgD) (g : GraphD) (hf : Fair p g) : Con Tryz.prog 14 [encP p, encG g] (pairI (countM p g)) := by
  have hgl := hf.glen
  refine con_of Tryz.func14 rfl rfl Tryz.ntmps14 Tryz.results14 rfl rfl ?_
  (repeat (first | refine zI ?_ | refine zL ?_ | refine zC ?_ | refine L_nil ?_ | refine A_seq ?_ | refine zR ?_ | refine zD ?_ | refine zK ?_ | refine zB ?_ | refine zA ?_ | refine zS ?_ | refine zU ?_ | refine zV ?_ | refine zF ?_ | with_reducible refine inblk_n ?_ | with_reducible refine then_n ?_ | refine A_block ?_ | refine A_skip ?_ | refine A_exit ?_ | refine zT ?_ | refine zE ?_ | refine zX ?_ | refine L_call rfl rfl (rfits_con p g hf) rfl rfl ?_))
  refine A_cond rfl (fun h => ?_) (fun h => ?_)
  · (repeat (first | refine zI ?_ | refine zL ?_ | refine zC ?_ | refine L_nil ?_ | refine A_seq ?_ | refine zR ?_ | refine zD ?_ | refine zK ?_ | refine zB ?_ | refine zA ?_ | refine zS ?_ | refine zU ?_ | refine zV ?_ | refine zF ?_ | with_reducible refine inblk_n ?_ | with_reducible refine then_n ?_ | refine A_block ?_ | refine A_skip ?_ | refine A_exit ?_ | refine zT ?_ | refine zE ?_ | refine zX ?_))
    refine A_ret ?_; refine ⟨_, rfl, ?_⟩
    have : fitsF p g ≠ 0 := by simpa using h
    rw [countM, if_neg this]
    exact Frz.pure
  have h0 : fitsF p g = 0 := by simpa using h
  have ht := table_in hf h0
  have htl : (tableF p g).length = g.ports.length := by simp [tableF]
  rw [countM, if_pos h0]
  (repeat (first | refine zI ?_ | refine zL ?_ | refine zC ?_ | refine L_nil ?_ | refine A_seq ?_ | refine zR ?_ | refine zD ?_ | refine zK ?_ | refine zB ?_ | refine zA ?_ | refine zS ?_ | refine zU ?_ | refine zV ?_ | refine zF ?_ | with_reducible refine inblk_n ?_ | with_reducible refine then_n ?_ | refine A_block ?_ | refine A_skip ?_ | refine A_exit ?_ | refine zT ?_ | refine zE ?_ | refine zX ?_))
  refine A_inv (α := Nat × Int) (fun a => [(8, i64 a.1), (7, i64 a.2), (2, .lp 2 0), (3, .lp 3 0)]) (fun k => [(2, some (.cells [strA p.name, .sl 6 (p.vars.map encVar), .sl 3 (p.rules.map encRule)])), (3, some (.cells [encInts g.ids, encPorts g.ports]))]) (fun a => g.ports.length - a.1) (fun a => a.1 ≤ g.ports.length ∧ 1 ≤ a.2 ∧ a.2 ≤ 32768 ∧ cntL 1 ((tableF p g).take a.1).flatten = some a.2) (0, 1) ⟨by simp, by simp, by simp, rfl⟩ (by (repeat (first | exact subT_nil | refine subT_cons rfl ?_))) (by first | exact subH_nil | exact subH_cons rfl subH_nil | exact subH_cons rfl (subH_cons rfl subH_nil) | exact subH_cons rfl (subH_cons rfl (subH_cons rfl subH_nil)) | exact subH_cons rfl (subH_cons rfl (subH_cons rfl (subH_cons rfl subH_nil)))) ?_
  rintro ⟨k, n⟩ ⟨hk, hn1, hn2, hn⟩
  simp only at hk hn1 hn2 hn ⊢
  (repeat (first | refine zI ?_ | refine zL ?_ | refine zC ?_ | refine L_nil ?_ | refine A_seq ?_ | refine zR ?_ | refine zD ?_ | refine zK ?_ | refine zB ?_ | refine zA ?_ | refine zS ?_ | refine zU ?_ | refine zV ?_ | refine zF ?_ | with_reducible refine inblk_n ?_ | with_reducible refine then_n ?_ | refine A_block ?_ | refine A_skip ?_ | refine A_exit ?_ | refine zT ?_ | refine zE ?_ | refine zX ?_))
  refine A_cond rfl (fun h1 => ?_) (fun h1 => ?_)
  · simp at h1
    obtain ⟨r, hr⟩ := getN (show k < (tableF p g).length by omega)
    have hw : ∀ b ∈ r, wOk b := fun b hb => rgOk_w ((ht.2 r (List.mem_of_getElem? hr)).2 b hb)
    have hsz := size_table h0 hr
    obtain ⟨q, hq⟩ : ∃ q, q = sizeF p g k := ⟨_, rfl⟩
    obtain ⟨hs1, hs2⟩ := sat_cnt r 1 (by omega) (by omega) hw
    have hsg := sat_ge r 1 (by omega) (by omega) hw
    have hsc := cnt_scale r n 1 hn1 (by omega) hw (by omega)
    rw [Int.mul_one] at hsc
    have hflat : ((tableF p g).take (k + 1)).flatten = ((tableF p g).take k).flatten ++ r := by rw [take_snocM hr]; simp
    have hrest : cntL n r = none → (0, 3) = countF (tableF p g) := by
      intro e
      have e2 : cntL 1 (tableF p g).flatten = none := by
        conv => lhs; rw [← List.take_append_drop (k + 1) (tableF p g), List.flatten_append, hflat]
        rw [cntL_app, cntL_app, hn, Option.bind_some, e]; rfl
      simp only [countF, e2]
    rw [← hsz, ← hq] at hs1 hs2 hsg
    (repeat (first | refine zI ?_ | refine zL ?_ | refine zC ?_ | refine L_nil ?_ | refine A_seq ?_ | refine zR ?_ | refine zD ?_ | refine zK ?_ | refine zB ?_ | refine zA ?_ | refine zS ?_ | refine zU ?_ | refine zV ?_ | refine zF ?_ | with_reducible refine inblk_n ?_ | with_reducible refine then_n ?_ | refine A_block ?_ | refine A_skip ?_ | refine A_exit ?_ | refine zT ?_ | refine zE ?_ | refine zX ?_ | refine L_call rfl rfl (rsize_con p g k hf) rfl rfl ?_))
    rw [← hq]
    refine L_split 29 rfl (fun h2 => ?_) (fun h2 => ?_)
    · (repeat (first | refine zI ?_ | refine zL ?_ | refine zC ?_ | refine L_nil ?_ | refine A_seq ?_ | refine zR ?_ | refine zD ?_ | refine zK ?_ | refine zB ?_ | refine zA ?_ | refine zS ?_ | refine zU ?_ | refine zV ?_ | refine zF ?_ | with_reducible refine inblk_n ?_ | with_reducible refine then_n ?_ | refine A_block ?_ | refine A_skip ?_ | refine A_exit ?_ | refine zT ?_ | refine zE ?_ | refine zX ?_))
      refine A_ret ?_; refine ⟨_, rfl, ?_⟩
      simp at h2
      rw [← hrest ?_]
      · exact Frz.pure
      · rw [hsc]
        cases hc : cntL 1 r with
        | none => rfl
        | some z => have := hs1 z hc; omega
    · simp at h2
      obtain ⟨z, hz⟩ : ∃ z, cntL 1 r = some z := by
        cases hc : cntL 1 r with
        | none => have := hs2 hc; omega
        | some z => exact ⟨z, rfl⟩
      have hqz := (hs1 z hz).1
      have hbd := mulM_bd (n := n) (w := q) hn1 hn2 (by omega) (by omega)
      rw [hz] at hsc
      simp only at hsc
      rw [← hqz] at hsc
      (repeat (first | refine zI ?_ | refine zL ?_ | refine zC ?_ | refine L_nil ?_ | refine A_seq ?_ | refine zR ?_ | refine zD ?_ | refine zK ?_ | refine zB ?_ | refine zA ?_ | refine zS ?_ | refine zU ?_ | refine zV ?_ | refine zF ?_ | with_reducible refine inblk_n ?_ | with_reducible refine then_n ?_ | refine A_block ?_ | refine A_skip ?_ | refine A_exit ?_ | refine zT ?_ | refine zE ?_ | refine zX ?_))
      refine A_cond rfl (fun h3 => ?_) (fun h3 => ?_)
      · (repeat (first | refine zI ?_ | refine zL ?_ | refine zC ?_ | refine L_nil ?_ | refine A_seq ?_ | refine zR ?_ | refine zD ?_ | refine zK ?_ | refine zB ?_ | refine zA ?_ | refine zS ?_ | refine zU ?_ | refine zV ?_ | refine zF ?_ | with_reducible refine inblk_n ?_ | with_reducible refine then_n ?_ | refine A_block ?_ | refine A_skip ?_ | refine A_exit ?_ | refine zT ?_ | refine zE ?_ | refine zX ?_))
        refine A_ret ?_; refine ⟨_, rfl, ?_⟩
        simp at h3
        rw [← hrest (by rw [hsc, if_pos h3])]
        exact Frz.pure
      · (repeat (first | refine zI ?_ | refine zL ?_ | refine zC ?_ | refine L_nil ?_ | refine A_seq ?_ | refine zR ?_ | refine zD ?_ | refine zK ?_ | refine zB ?_ | refine zA ?_ | refine zS ?_ | refine zU ?_ | refine zV ?_ | refine zF ?_ | with_reducible refine inblk_n ?_ | with_reducible refine then_n ?_ | refine A_block ?_ | refine A_skip ?_ | refine A_exit ?_ | refine zT ?_ | refine zE ?_ | refine zX ?_))
        simp at h3
        refine rnd (k + 1, n * q) ⟨by simp only; omega, hbd.1, by simp only; omega, ?_⟩ (by simp only; omega) (by (repeat (first | exact subT_nil | refine subT_cons rfl ?_))) (by first | exact subH_nil | exact subH_cons rfl subH_nil | exact subH_cons rfl (subH_cons rfl subH_nil) | exact subH_cons rfl (subH_cons rfl (subH_cons rfl subH_nil)) | exact subH_cons rfl (subH_cons rfl (subH_cons rfl (subH_cons rfl subH_nil))))
        simp only
        rw [hflat, cntL_app, hn, Option.bind_some, hsc, if_neg (by omega)]
  · simp at h1
    obtain rfl : k = g.ports.length := by omega
    (repeat (first | refine zI ?_ | refine zL ?_ | refine zC ?_ | refine L_nil ?_ | refine A_seq ?_ | refine zR ?_ | refine zD ?_ | refine zK ?_ | refine zB ?_ | refine zA ?_ | refine zS ?_ | refine zU ?_ | refine zV ?_ | refine zF ?_ | with_reducible refine inblk_n ?_ | with_reducible refine then_n ?_ | refine A_block ?_ | refine A_skip ?_ | refine A_exit ?_ | refine zT ?_ | refine zE ?_ | refine zX ?_))
    refine A_ret ?_; refine ⟨_, rfl, ?_⟩
    rw [← htl, List.take_length] at hn
    simp only [countF, hn]
    exact Frz.pure
end Go.Proofs.YtenajilnjeafpaaGreat
set_option linter.unusedVariables false
set_option maxRecDepth 100000
set_option maxHeartbeats 8000000
namespace Go.Proofs.YtenajilnjeafpaaGreat
open Go.RowKit
theorem rconf_con (p : ProgD) (g : GraphD) (k : Int) (hf : Fair p g) (h0 : fitsF p g = 0) (hk : 0 ≤ k ∧ k ≤ 1000000000) : Con Tryz.prog 51 [encP p, encG g, i64 k] (encC (unTab k (tableF p g)).1) := by
  have ht := table_in hf h0
  have hends := tends_con p g hf h0
  have hle := rleast_own p g hf h0
  refine con_of Tryz.func51 rfl rfl Tryz.ntmps51 Tryz.results51 rfl rfl ?_
  (repeat (first | with_reducible refine then_n ?_ | with_reducible refine inblk_n ?_ | refine A_skip ?_)); refine A_seq ?_; refine A_region (lf := lfT) rfl ?_
  (repeat (first | refine zI ?_ | refine zL ?_ | refine zC ?_ | refine zK ?_ | refine zB ?_ | refine zA ?_ | refine zS ?_ | refine zU ?_ | refine zV ?_ | refine zF ?_ | refine zX ?_ | refine L_nil ?_))
  (repeat (first | with_reducible refine then_n ?_ | with_reducible refine inblk_n ?_ | refine A_skip ?_))
  generalize htb : tableF p g = tbl at ht hends hle
  have htl := ht.1
  refine A_sub (t' := [(3, .lp 3 0), (4, .lp 4 0), (2, i64 k)]) (h' := pgF p g 3 4) ?_ (by (repeat (first | exact subT_nil | refine subT_cons rfl ?_))) (by first | exact subH_nil | exact subH_cons rfl subH_nil | exact subH_cons rfl (subH_cons rfl subH_nil) | exact subH_cons rfl (subH_cons rfl (subH_cons rfl subH_nil)) | exact subH_cons rfl (subH_cons rfl (subH_cons rfl (subH_cons rfl subH_nil))))
  (repeat (first | refine zI ?_ | refine zL ?_ | refine zC ?_ | refine L_nil ?_ | refine A_seq ?_ | refine zR ?_ | refine zD ?_ | refine zK ?_ | refine zB ?_ | refine zA ?_ | refine zS ?_ | refine zU ?_ | refine zV ?_ | refine zF ?_ | with_reducible refine inblk_n ?_ | with_reducible refine then_n ?_ | refine A_block ?_ | refine A_skip ?_ | refine A_exit ?_ | refine zT ?_ | refine zE ?_ | refine zX ?_ | refine L_callO hle rfl rfl rfl rfl rfl rfl rfl rfl rfl rfl rfl rfl rfl ?_))
  refine A_invS (α := Nat) (fun v => [(9, i64 ((v : Int) - 1)), (7, .ls 16 1 tbl.length), (2, i64 (unTab k (tbl.drop v)).2), (3, .lp 3 0), (4, .lp 4 0)]) (fun v => pgF p g 3 4 ++ matH 16 1 (matR (wayT k tbl v)) []) (fun v => v) (fun v => v ≤ tbl.length) tbl.length (by omega) (by rw [List.drop_length]; exact (by (repeat (first | exact subT_nil | refine subT_cons rfl ?_)))) (hsE (by rw [wayT_all])) ?_
  intro v hv
  (repeat (first | refine zI ?_ | refine zL ?_ | refine zC ?_ | refine L_nil ?_ | refine A_seq ?_ | refine zR ?_ | refine zD ?_ | refine zK ?_ | refine zB ?_ | refine zA ?_ | refine zS ?_ | refine zU ?_ | refine zV ?_ | refine zF ?_ | with_reducible refine inblk_n ?_ | with_reducible refine then_n ?_ | refine A_block ?_ | refine A_skip ?_ | refine A_exit ?_ | refine zT ?_ | refine zE ?_ | refine zX ?_))
  refine A_cond rfl (fun h3 => ?_) (fun h3 => ?_)
  · simp at h3
    obtain ⟨u, rfl⟩ : ∃ u, v = u + 1 := ⟨v - 1, by omega⟩
    rw [show (((u + 1 : Nat) : Int) - 1) = (u : Int) by omega]
    obtain ⟨r, hr⟩ := getN (show u < tbl.length by omega)
    obtain ⟨K, hK⟩ : ∃ K, K = (unTab k (tbl.drop (u + 1))).2 := ⟨_, rfl⟩
    have hKb : 0 ≤ K ∧ K ≤ k := by rw [hK]; exact unTab_bd hk.1 _ fun r hr => (ht.2 r (List.mem_of_mem_drop hr)).2
    have hrest : (unRow K r).2 = (unTab k (tbl.drop u)).2 := by rw [drop_getM hr, hK]; rfl
    have hset := wayT_set (k := k) hr
    rw [← hK] at hset ⊢
    obtain ⟨hr1, hrq⟩ := ht.2 r (List.mem_of_getElem? hr)
    obtain ⟨A, hA⟩ : ∃ A, A = wayT k tbl (u + 1) := ⟨_, rfl⟩
    have hAv := wayT_at (k := k) hr
    have hAn : A.length = tbl.length := by rw [hA, wayT_len]
    rw [← hA] at hset hAv ⊢
    have hpart0 : (matR A)[u]? = some ((r.map (·.1)).map i64) := by rw [matR_get, hAv]; rfl
    have hcO : cellsO (hlook (pgF p g 3 4 ++ matH 16 1 (matR A) []) 16) = some (matC 16 1 0 (matR A) ++ []) := by rw [mat_outer (f := pgF p g 3 4) rfl]; exact cellsO_matO _
    have hcell : (matC 16 1 0 (matR A) ++ [])[(u : Int).toNat * 1]? = some (.ls (fam 16 u) 1 r.length) := by
      rw [show ((u : Int).toNat * 1) = u by simp, List.append_nil, matC_get, hpart0]
      simp only [Option.map_some, List.length_map, Nat.div_one, Nat.zero_add]
    have hrow : hlook (pgF p g 3 4 ++ matH 16 1 (matR A) []) (fam 16 u) = some (.vec ((r.map (·.1)).map i64)) := mat_row (f := pgF p g 3 4) rfl (by omega) hpart0
    (repeat (first | refine L_lenI tok rfl rfl hrow rfl rfl ?_ | refine zI ?_ | refine zL ?_ | refine zC ?_ | refine L_nil ?_ | refine A_seq ?_ | refine zR ?_ | refine zD ?_ | refine zK ?_ | refine zB ?_ | refine zA ?_ | refine zS ?_ | refine zU ?_ | refine zV ?_ | refine zF ?_ | with_reducible refine inblk_n ?_ | with_reducible refine then_n ?_ | refine A_block ?_ | refine A_skip ?_ | refine A_exit ?_ | refine zT ?_ | refine zE ?_ | refine zX ?_ | refine L_index_ls tok rfl rfl (mat_outer (f := pgF p g 3 4) rfl) rfl (by omega) (by omega) rfl rfl ?_ | refine L_load1 (r := .ls (fam 16 u) 1 r.length) tok rfl rfl rfl hcO hcell rfl rfl ?_ | refine L_index_ls tok rfl rfl hrow rfl (by omega) (by omega) rfl rfl ?_))
    refine A_invS (α := Nat) (fun x => [(10, i64 ((x : Int) - 1)), (9, i64 u), (7, .ls 16 1 tbl.length), (2, i64 (unRow K (r.drop x)).2), (3, .lp 3 0), (4, .lp 4 0)]) (fun x => pgF p g 3 4 ++ matH 16 1 (matR (A.set u (wayR K r x))) []) (fun x => x) (fun x => x ≤ r.length) r.length (by omega) (by rw [List.drop_length]; exact (by (repeat (first | exact subT_nil | refine subT_cons rfl ?_)))) (hsE (by rw [wayR_all, set_same hAv])) ?_
    intro x hx
    (repeat (first | refine zI ?_ | refine zL ?_ | refine zC ?_ | refine L_nil ?_ | refine A_seq ?_ | refine zR ?_ | refine zD ?_ | refine zK ?_ | refine zB ?_ | refine zA ?_ | refine zS ?_ | refine zU ?_ | refine zV ?_ | refine zF ?_ | with_reducible refine inblk_n ?_ | with_reducible refine then_n ?_ | refine A_block ?_ | refine A_skip ?_ | refine A_exit ?_ | refine zT ?_ | refine zE ?_ | refine zX ?_))
    refine A_cond rfl (fun h4 => ?_) (fun h4 => ?_)
    · simp at h4
      obtain ⟨y, rfl⟩ : ∃ y, x = y + 1 := ⟨x - 1, by omega⟩
      rw [show (((y + 1 : Nat) : Int) - 1) = (y : Int) by omega]
      obtain ⟨b, hb⟩ := getN (show y < r.length by omega)
      obtain ⟨b1, b2, b3⟩ := hrq b (List.mem_of_getElem? hb)
      obtain ⟨L, hL⟩ : ∃ L, L = (unRow K (r.drop (y + 1))).2 := ⟨_, rfl⟩
      have hLb : 0 ≤ L ∧ L ≤ K := by rw [hL]; exact unRow_bd hKb.1 _ fun q hq => hrq q (List.mem_of_mem_drop hq)
      have hLm := tmod_bd (w := rgW b) hLb.1 (by unfold rgW; omega)
      have hLd := tdiv_bd (w := rgW b) hLb.1 (by unfold rgW; omega)
      simp only [rgW] at hLm hLd
      have hstep := wayR_set (k := K) hb
      have hnext := way_rest (k := K) hb
      rw [← hL] at hstep hnext ⊢
      have hAl : u < A.length := by omega
      have hpart : (matR (A.set u (wayR K r (y + 1))))[u]? = some ((wayR K r (y + 1)).map i64) := by rw [matR_get, List.getElem?_set_self hAl]; rfl
      have hpl : ((wayR K r (y + 1)).map i64).length = r.length := by rw [List.length_map, wayR_len]
      have hcO : cellsO (hlook (pgF p g 3 4 ++ matH 16 1 (matR (A.set u (wayR K r (y + 1)))) []) 16) = some (matC 16 1 0 (matR (A.set u (wayR K r (y + 1)))) ++ []) := by rw [mat_outer (f := pgF p g 3 4) rfl]; exact cellsO_matO _
      have hcell : (matC 16 1 0 (matR (A.set u (wayR K r (y + 1)))) ++ [])[(u : Int).toNat * 1]? = some (.ls (fam 16 u) 1 r.length) := by
        rw [show ((u : Int).toNat * 1) = u by simp, List.append_nil, matC_get, hpart]
        simp only [Option.map_some, hpl, Nat.div_one, Nat.zero_add]
      have hrow : hlook (pgF p g 3 4 ++ matH 16 1 (matR (A.set u (wayR K r (y + 1)))) []) (fam 16 u) = some (.vec ((wayR K r (y + 1)).map i64)) := mat_row (f := pgF p g 3 4) rfl (by omega) hpart
      (repeat (first | refine zI ?_ | refine zL ?_ | refine zC ?_ | refine L_nil ?_ | refine A_seq ?_ | refine zR ?_ | refine zD ?_ | refine zK ?_ | refine zB ?_ | refine zA ?_ | refine zS ?_ | refine zU ?_ | refine zV ?_ | refine zF ?_ | with_reducible refine inblk_n ?_ | with_reducible refine then_n ?_ | refine A_block ?_ | refine A_skip ?_ | refine A_exit ?_ | refine zT ?_ | refine zE ?_ | refine zX ?_ | refine L_index_ls tok rfl rfl (mat_outer (f := pgF p g 3 4) rfl) rfl (by omega) (by omega) rfl rfl ?_ | refine L_load1 (r := .ls (fam 16 u) 1 r.length) tok rfl rfl rfl hcO hcell rfl rfl ?_ | refine L_index_ls tok rfl rfl hrow rfl (by omega) (by omega) rfl rfl ?_ | refine L_rem rfl rfl (by omega) rfl rfl ?_ | refine L_call rfl rfl (hends u y r b hr hb) rfl rfl ?_))
      refine L_storeI (h' := pgF p g 3 4 ++ matH 16 1 (matR (A.set u (wayR K r y))) []) tok rfl rfl rfl rfl rfl hrow (by rw [hpl]; simp; omega) rfl ?_ rfl rfl ?_
      · have e : ((wayR K r (y + 1)).map i64).set y (.v (.int .i64 (b.1 + L.tmod (b.2 - b.1 + 1)))) = (wayR K r y).map i64 := by
          rw [← hstep, List.map_set]; rfl
        rw [show ((y : Int).toNat * 1) = y by simp, e]
        refine (mat_upd (f := pgF p g 3 4) rfl (by omega) hpart (by rw [hpl, List.length_map, wayR_len])).trans ?_
        rw [matR_set, matR_set, List.set_set]
      (repeat (first | refine zI ?_ | refine zL ?_ | refine zC ?_ | refine L_nil ?_ | refine A_seq ?_ | refine zR ?_ | refine zD ?_ | refine zK ?_ | refine zB ?_ | refine zA ?_ | refine zS ?_ | refine zU ?_ | refine zV ?_ | refine zF ?_ | with_reducible refine inblk_n ?_ | with_reducible refine then_n ?_ | refine A_block ?_ | refine A_skip ?_ | refine A_exit ?_ | refine zT ?_ | refine zE ?_ | refine zX ?_ | refine L_quo rfl rfl (by omega) (by omega) (by omega) rfl rfl ?_))
      refine rndS y (by omega) (by omega) ?_ (fun id o h => h)
      rw [hnext]
      exact (by (repeat (first | exact subT_nil | refine subT_cons rfl ?_)))
    · simp at h4
      obtain rfl : x = 0 := by omega
      (repeat (first | refine zI ?_ | refine zL ?_ | refine zC ?_ | refine L_nil ?_ | refine A_seq ?_ | refine zR ?_ | refine zD ?_ | refine zK ?_ | refine zB ?_ | refine zA ?_ | refine zS ?_ | refine zU ?_ | refine zV ?_ | refine zF ?_ | with_reducible refine inblk_n ?_ | with_reducible refine then_n ?_ | refine A_block ?_ | refine A_skip ?_ | refine A_exit ?_ | refine zT ?_ | refine zE ?_ | refine zX ?_))
      rw [List.drop_zero, hrest, wayR_zero, hset]
      refine rndS u (by omega) (by omega) (by (repeat (first | exact subT_nil | refine subT_cons rfl ?_))) (fun id o h => h)
  · simp at h3
    obtain rfl : v = 0 := by omega
    (repeat (first | refine zI ?_ | refine zL ?_ | refine zC ?_ | refine L_nil ?_ | refine A_seq ?_ | refine zR ?_ | refine zD ?_ | refine zK ?_ | refine zB ?_ | refine zA ?_ | refine zS ?_ | refine zU ?_ | refine zV ?_ | refine zF ?_ | with_reducible refine inblk_n ?_ | with_reducible refine then_n ?_ | refine A_block ?_ | refine A_skip ?_ | refine A_exit ?_ | refine zT ?_ | refine zE ?_ | refine zX ?_))
    refine A_ret ?_; refine ⟨_, rfl, ?_⟩
    rw [wayT_zero]
    exact frz_cfg (f := pgF p g 3 4) (M := 16) (n := tbl.length) rfl rfl rfl (by rw [unTab_len]) rfl
theorem runrank_con (p : ProgD) (g : GraphD) (k : Int) (hf : Fair p g) : Con Tryz.prog 23 [encP p, encG g, i64 k] (pairC (unrankM p g k)) := by
  have hcon := rcount_con p g hf
  refine con_of Tryz.func23 rfl rfl Tryz.ntmps23 Tryz.results23 rfl rfl ?_
  (repeat (first | refine zI ?_ | refine zL ?_ | refine zC ?_ | refine L_nil ?_ | refine A_seq ?_ | refine zR ?_ | refine zD ?_ | refine zK ?_ | refine zB ?_ | refine zA ?_ | refine zS ?_ | refine zU ?_ | refine zV ?_ | refine zF ?_ | with_reducible refine inblk_n ?_ | with_reducible refine then_n ?_ | refine A_block ?_ | refine A_skip ?_ | refine A_exit ?_ | refine zT ?_ | refine zE ?_ | refine zX ?_ | refine L_call rfl rfl hcon rfl rfl ?_))
  by_cases h0 : fitsF p g = 0
  · rw [countM, if_pos h0, unrankM, if_pos h0]
    have hb := countF_bd (tableF p g)
    have hb0 : 0 ≤ (countF (tableF p g)).1 := by
      unfold countF
      cases hc : cntL 1 (tableF p g).flatten with
      | none => simp
      | some n =>
        have ht := table_in hf h0
        have hw : ∀ b ∈ (tableF p g).flatten, wOk b := fun b hb => by
          obtain ⟨r, hr, hb⟩ := List.mem_flatten.1 hb
          exact rgOk_w ((ht.2 r hr).2 b hb)
        have e := ((sat_cnt _ 1 (by omega) (by omega) hw).1 n hc).1
        have := (sat_ge (tableF p g).flatten 1 (by omega) (by omega) hw).1
        simp only
        omega
    refine A_cond rfl (fun h1 => ?_) (fun h1 => ?_)
    · (repeat (first | refine zI ?_ | refine zL ?_ | refine zC ?_ | refine L_nil ?_ | refine A_seq ?_ | refine zR ?_ | refine zD ?_ | refine zK ?_ | refine zB ?_ | refine zA ?_ | refine zS ?_ | refine zU ?_ | refine zV ?_ | refine zF ?_ | with_reducible refine inblk_n ?_ | with_reducible refine then_n ?_ | refine A_block ?_ | refine A_skip ?_ | refine A_exit ?_ | refine zT ?_ | refine zE ?_ | refine zX ?_))
      refine A_ret ?_; refine ⟨_, rfl, ?_⟩
      rw [if_neg (by simpa using h1)]
      exact Frz.tup2 Frz.nil Frz.pure
    have h1' : (countF (tableF p g)).2 = 0 := by simpa using h1
    rw [if_pos h1']
    (repeat (first | refine zI ?_ | refine zL ?_ | refine zC ?_ | refine L_nil ?_ | refine A_seq ?_ | refine zR ?_ | refine zD ?_ | refine zK ?_ | refine zB ?_ | refine zA ?_ | refine zS ?_ | refine zU ?_ | refine zV ?_ | refine zF ?_ | with_reducible refine inblk_n ?_ | with_reducible refine then_n ?_ | refine A_block ?_ | refine A_skip ?_ | refine A_exit ?_ | refine zT ?_ | refine zE ?_ | refine zX ?_ | refine L_call rfl rfl (in_con _ _ _) rfl rfl ?_))
    refine A_cond rfl (fun h2 => ?_) (fun h2 => ?_)
    · (repeat (first | refine zI ?_ | refine zL ?_ | refine zC ?_ | refine L_nil ?_ | refine A_seq ?_ | refine zR ?_ | refine zD ?_ | refine zK ?_ | refine zB ?_ | refine zA ?_ | refine zS ?_ | refine zU ?_ | refine zV ?_ | refine zF ?_ | with_reducible refine inblk_n ?_ | with_reducible refine then_n ?_ | refine A_block ?_ | refine A_skip ?_ | refine A_exit ?_ | refine zT ?_ | refine zE ?_ | refine zX ?_))
      refine A_ret ?_; refine ⟨_, rfl, ?_⟩
      simp [inB] at h2
      rw [if_neg (by omega)]
      exact Frz.tup2 Frz.nil Frz.pure
    simp [inB] at h2
    rw [if_pos (by omega)]
    (repeat (first | refine zI ?_ | refine zL ?_ | refine zC ?_ | refine L_nil ?_ | refine A_seq ?_ | refine zR ?_ | refine zD ?_ | refine zK ?_ | refine zB ?_ | refine zA ?_ | refine zS ?_ | refine zU ?_ | refine zV ?_ | refine zF ?_ | with_reducible refine inblk_n ?_ | with_reducible refine then_n ?_ | refine A_block ?_ | refine A_skip ?_ | refine A_exit ?_ | refine zT ?_ | refine zE ?_ | refine zX ?_ | refine L_call rfl rfl (rconf_con p g k hf h0 (by omega)) rfl rfl ?_))
    refine A_ret ?_; refine ⟨_, rfl, ?_⟩
    exact Frz.pure
  · rw [countM, if_neg h0, unrankM, if_neg h0]
    refine A_cond rfl (fun h1 => ?_) (fun h1 => ?_)
    · (repeat (first | refine zI ?_ | refine zL ?_ | refine zC ?_ | refine L_nil ?_ | refine A_seq ?_ | refine zR ?_ | refine zD ?_ | refine zK ?_ | refine zB ?_ | refine zA ?_ | refine zS ?_ | refine zU ?_ | refine zV ?_ | refine zF ?_ | with_reducible refine inblk_n ?_ | with_reducible refine then_n ?_ | refine A_block ?_ | refine A_skip ?_ | refine A_exit ?_ | refine zT ?_ | refine zE ?_ | refine zX ?_))
      refine A_ret ?_; refine ⟨_, rfl, ?_⟩
      exact Frz.tup2 Frz.nil Frz.pure
    · simp [h0] at h1
end Go.Proofs.YtenajilnjeafpaaGreat
set_option linter.unusedVariables false
set_option maxRecDepth 100000
set_option maxHeartbeats 8000000
namespace Go.Proofs.YtenajilnjeafpaaGreat
open Go.RowKit
def rankStep (k : Int) (q : (Int × Int) × Int) : Int := k * rgW q.1 + q.2 - q.1.1
def rankRow (k : Int) (r : List (Int × Int)) (s : List Int) : Int := (r.zip s).foldl rankStep k
def rankTab (t : List (List (Int × Int))) (c : List (List Int)) : Int := (t.zip c).foldl (fun k q => rankRow k q.1 q.2) 0
theorem cntL_split {n q : Int} {a b : List (Int × Int)} (h : cntL n (a ++ b) = some q) : ∃ m, cntL n a = some m ∧ cntL m b = some q := by
  rw [cntL_app] at h
  cases ha : cntL n a with
  | none => rw [ha] at h; cases h
  | some m => rw [ha] at h; exact ⟨m, rfl, h⟩
theorem cntL_one {n q : Int} {b : Int × Int} (h : cntL n [b] = some q) : q = n * rgW b ∧ q ≤ 32768 := by
  simp only [cntL] at h
  split at h
  · cases h
  · simp only [Option.some.injEq] at h
    unfold rgW
    omega
theorem rank_bd {k m w d : Int} (h0 : 0 ≤ k) (h1 : k < m) (hd0 : 0 ≤ d) (hd : d < w) (hw : w ≤ 1000002) (hm : m ≤ 32768) : 0 ≤ k * w ∧ k * w ≤ 32768 * 1000002 ∧ k * w + d < m * w := by
  refine ⟨Int.mul_nonneg h0 (by omega), Int.mul_le_mul (by omega) hw (by omega) (by omega), ?_⟩
  have h2 : (k + 1) * w ≤ m * w := Int.mul_le_mul_of_nonneg_right (by omega) (by omega)
  rw [Int.add_mul, Int.one_mul] at h2
  omega
theorem countF_some {tbl : List (List (Int × Int))} (h : (countF tbl).2 = 0) : ∃ q, cntL 1 tbl.flatten = some q ∧ countF tbl = (q, 0) := by
  unfold countF at h ⊢
  cases hc : cntL 1 tbl.flatten with
  | none => rw [hc] at h; cases h
  | some q => exact ⟨q, rfl, rfl⟩
def rankM (p : ProgD) (g : GraphD) (c : List (List Int)) : Int × Int :=
  if checkM p g c = 0 then if (countF (tableF p g)).2 = 0 then (rankTab (tableF p g) c, 0) else (0, (countF (tableF p g)).2) else (0, checkM p g c)
theorem mrank_con (p : ProgD) (g : GraphD) (c : List (List Int)) (hf : Fair p g) (hc : CfgIn c) : Con Tryz.prog 20 [encP p, encG g, encC c] (pairI (rankM p g c)) := by
  have hcl := hc.1
  refine con_of Tryz.func20 rfl rfl Tryz.ntmps20 Tryz.results20 rfl rfl ?_
  (repeat (first | refine zI ?_ | refine zL ?_ | refine zC ?_ | refine L_nil ?_ | refine A_seq ?_ | refine zR ?_ | refine zD ?_ | refine zK ?_ | refine zB ?_ | refine zA ?_ | refine zS ?_ | refine zU ?_ | refine zV ?_ | refine zF ?_ | with_reducible refine inblk_n ?_ | with_reducible refine then_n ?_ | refine A_block ?_ | refine A_skip ?_ | refine A_exit ?_ | refine zT ?_ | refine zE ?_ | refine zX ?_ | refine L_call rfl rfl (mcheck_con p g c hf hc) rfl rfl ?_))
  refine A_cond rfl (fun h => ?_) (fun h => ?_)
  · (repeat (first | refine zI ?_ | refine zL ?_ | refine zC ?_ | refine L_nil ?_ | refine A_seq ?_ | refine zR ?_ | refine zD ?_ | refine zK ?_ | refine zB ?_ | refine zA ?_ | refine zS ?_ | refine zU ?_ | refine zV ?_ | refine zF ?_ | with_reducible refine inblk_n ?_ | with_reducible refine then_n ?_ | refine A_block ?_ | refine A_skip ?_ | refine A_exit ?_ | refine zT ?_ | refine zE ?_ | refine zX ?_))
    refine A_ret ?_; refine ⟨_, rfl, ?_⟩
    have : checkM p g c ≠ 0 := by simpa using h
    rw [rankM, if_neg this]
    exact Frz.pure
  have h0 : checkM p g c = 0 := by simpa using h
  obtain ⟨h1, hin⟩ := check_zero.1 h0
  have ht := table_in hf h1
  (repeat (first | refine zI ?_ | refine zL ?_ | refine zC ?_ | refine L_nil ?_ | refine A_seq ?_ | refine zR ?_ | refine zD ?_ | refine zK ?_ | refine zB ?_ | refine zA ?_ | refine zS ?_ | refine zU ?_ | refine zV ?_ | refine zF ?_ | with_reducible refine inblk_n ?_ | with_reducible refine then_n ?_ | refine A_block ?_ | refine A_skip ?_ | refine A_exit ?_ | refine zT ?_ | refine zE ?_ | refine zX ?_ | refine L_call rfl rfl (table_con p g hf h1) rfl rfl ?_ | refine L_call rfl rfl (count_con (tableF p g) ht) rfl rfl ?_))
  refine A_cond rfl (fun h2 => ?_) (fun h2 => ?_)
  · (repeat (first | refine zI ?_ | refine zL ?_ | refine zC ?_ | refine L_nil ?_ | refine A_seq ?_ | refine zR ?_ | refine zD ?_ | refine zK ?_ | refine zB ?_ | refine zA ?_ | refine zS ?_ | refine zU ?_ | refine zV ?_ | refine zF ?_ | with_reducible refine inblk_n ?_ | with_reducible refine then_n ?_ | refine A_block ?_ | refine A_skip ?_ | refine A_exit ?_ | refine zT ?_ | refine zE ?_ | refine zX ?_))
    refine A_ret ?_; refine ⟨_, rfl, ?_⟩
    have : (countF (tableF p g)).2 ≠ 0 := by simpa using h2
    rw [rankM, if_pos h0, if_neg this]
    exact Frz.pure
  have h2' : (countF (tableF p g)).2 = 0 := by simpa using h2
  rw [rankM, if_pos h0, if_pos h2']
  obtain ⟨q, hq, _⟩ := countF_some h2'
  generalize htb : tableF p g = tbl at ht hin hq
  have htl := ht.1
  obtain ⟨hlen, hcfg⟩ := cfg_get hin
  (repeat (first | refine zI ?_ | refine zL ?_ | refine zC ?_ | refine L_nil ?_ | refine A_seq ?_ | refine zR ?_ | refine zD ?_ | refine zK ?_ | refine zB ?_ | refine zA ?_ | refine zS ?_ | refine zU ?_ | refine zV ?_ | refine zF ?_ | with_reducible refine inblk_n ?_ | with_reducible refine then_n ?_ | refine A_block ?_ | refine A_skip ?_ | refine A_exit ?_ | refine zT ?_ | refine zE ?_ | refine zX ?_))
  refine A_inv (α := Nat × Int) (fun a => [(37, i64 a.1), (36, i64 tbl.length), (35, encTab tbl), (2, encC c), (12, i64 a.2)]) (fun _ => []) (fun a => tbl.length - a.1) (fun a => a.1 ≤ tbl.length ∧ a.2 = ((tbl.zip c).take a.1).foldl (fun k q => rankRow k q.1 q.2) 0 ∧ 0 ≤ a.2 ∧ ∃ m, cntL 1 (tbl.take a.1).flatten = some m ∧ a.2 < m ∧ m ≤ 32768) (0, 0) ⟨by simp, rfl, by simp, 1, rfl, by simp, by simp⟩ (by (repeat (first | exact subT_nil | refine subT_cons rfl ?_))) (by first | exact subH_nil | exact subH_cons rfl subH_nil | exact subH_cons rfl (subH_cons rfl subH_nil) | exact subH_cons rfl (subH_cons rfl (subH_cons rfl subH_nil)) | exact subH_cons rfl (subH_cons rfl (subH_cons rfl (subH_cons rfl subH_nil)))) ?_
  rintro ⟨v, k⟩ ⟨hv, hk, hk0, m, hm, hkm, hm2⟩
  simp only at hv hk hk0 hm hkm ⊢
  (repeat (first | refine zI ?_ | refine zL ?_ | refine zC ?_ | refine L_nil ?_ | refine A_seq ?_ | refine zR ?_ | refine zD ?_ | refine zK ?_ | refine zB ?_ | refine zA ?_ | refine zS ?_ | refine zU ?_ | refine zV ?_ | refine zF ?_ | with_reducible refine inblk_n ?_ | with_reducible refine then_n ?_ | refine A_block ?_ | refine A_skip ?_ | refine A_exit ?_ | refine zT ?_ | refine zE ?_ | refine zX ?_))
  refine A_cond rfl (fun h3 => ?_) (fun h3 => ?_)
  · simp at h3
    obtain ⟨r, hr⟩ := getN (show v < tbl.length by omega)
    obtain ⟨s, hs, hst⟩ := hcfg v r hr
    obtain ⟨hsl, hsg⟩ := state_get hst
    obtain ⟨hrl, hrq⟩ := ht.2 r (List.mem_of_getElem? hr)
    have hflat : cntL 1 ((tbl.take v).flatten ++ (r ++ (tbl.drop (v + 1)).flatten)) = some q := by
      rw [← hq, ← List.append_assoc]
      congr 1
      conv => rhs; rw [← List.take_append_drop (v + 1) tbl, take_snocM hr]
      simp
    (repeat (first | refine zI ?_ | refine zL ?_ | refine zC ?_ | refine L_nil ?_ | refine A_seq ?_ | refine zR ?_ | refine zD ?_ | refine zK ?_ | refine zB ?_ | refine zA ?_ | refine zS ?_ | refine zU ?_ | refine zV ?_ | refine zF ?_ | with_reducible refine inblk_n ?_ | with_reducible refine then_n ?_ | refine A_block ?_ | refine A_skip ?_ | refine A_exit ?_ | refine zT ?_ | refine zE ?_ | refine zX ?_))
    refine A_inv (α := Nat × Int) (fun a => [(44, i64 a.1), (43, i64 r.length), (42, .sl 2 (r.map encRg)), (2, encC c), (12, i64 a.2), (13, i64 v), (37, i64 v), (36, i64 tbl.length), (35, encTab tbl)]) (fun _ => []) (fun a => r.length - a.1) (fun a => a.1 ≤ r.length ∧ a.2 = ((r.zip s).take a.1).foldl rankStep k ∧ 0 ≤ a.2 ∧ ∃ m', cntL m (r.take a.1) = some m' ∧ a.2 < m' ∧ m' ≤ 32768) (0, k) ⟨by simp, rfl, hk0, m, rfl, hkm, hm2⟩ (by (repeat (first | exact subT_nil | refine subT_cons rfl ?_))) (by first | exact subH_nil | exact subH_cons rfl subH_nil | exact subH_cons rfl (subH_cons rfl subH_nil) | exact subH_cons rfl (subH_cons rfl (subH_cons rfl subH_nil)) | exact subH_cons rfl (subH_cons rfl (subH_cons rfl (subH_cons rfl subH_nil)))) ?_
    rintro ⟨x, n⟩ ⟨hx, hn, hn0, m', hm', hnm, hm2'⟩
    simp only at hx hn hn0 hm' hnm ⊢
    (repeat (first | refine zI ?_ | refine zL ?_ | refine zC ?_ | refine L_nil ?_ | refine A_seq ?_ | refine zR ?_ | refine zD ?_ | refine zK ?_ | refine zB ?_ | refine zA ?_ | refine zS ?_ | refine zU ?_ | refine zV ?_ | refine zF ?_ | with_reducible refine inblk_n ?_ | with_reducible refine then_n ?_ | refine A_block ?_ | refine A_skip ?_ | refine A_exit ?_ | refine zT ?_ | refine zE ?_ | refine zX ?_))
    refine A_cond rfl (fun h4 => ?_) (fun h4 => ?_)
    · simp at h4
      obtain ⟨b, hb⟩ := getN (show x < r.length by omega)
      obtain ⟨z, hz, hz1, hz2⟩ := hsg x b hb
      obtain ⟨b1, b2, b3⟩ := hrq b (List.mem_of_getElem? hb)
      have hbd := rank_bd (k := n) (m := m') (w := b.2 - b.1 + 1) (d := z - b.1) hn0 hnm (by omega) (by omega) (by omega) hm2'
      obtain ⟨m'', hm'', hm3⟩ : ∃ m'', cntL m (r.take (x + 1)) = some m'' ∧ m'' = m' * rgW b ∧ m'' ≤ 32768 := by
        have hsp := cntL_split hflat
        obtain ⟨ma, e1, e2⟩ := hsp
        rw [hm] at e1
        cases e1
        rw [← List.take_append_drop (x + 1) r, List.append_assoc] at e2
        obtain ⟨mb, e3, _⟩ := cntL_split e2
        refine ⟨mb, e3, ?_⟩
        rw [take_snocM hb] at e3
        obtain ⟨mc, e4, e5⟩ := cntL_split e3
        rw [hm'] at e4
        cases e4
        exact cntL_one e5
      (repeat (first | refine zI ?_ | refine zL ?_ | refine zC ?_ | refine L_nil ?_ | refine A_seq ?_ | refine zR ?_ | refine zD ?_ | refine zK ?_ | refine zB ?_ | refine zA ?_ | refine zS ?_ | refine zU ?_ | refine zV ?_ | refine zF ?_ | with_reducible refine inblk_n ?_ | with_reducible refine then_n ?_ | refine A_block ?_ | refine A_skip ?_ | refine A_exit ?_ | refine zT ?_ | refine zE ?_ | refine zX ?_))
      refine rnd (x + 1, n * (b.2 - b.1 + 1) + z - b.1) ⟨by simp only; omega, ?_, by simp only; omega, m'', hm'', ?_, hm3.2⟩ (by simp only; omega) (by (repeat (first | exact subT_nil | refine subT_cons rfl ?_))) (by first | exact subH_nil | exact subH_cons rfl subH_nil | exact subH_cons rfl (subH_cons rfl subH_nil) | exact subH_cons rfl (subH_cons rfl (subH_cons rfl subH_nil)) | exact subH_cons rfl (subH_cons rfl (subH_cons rfl (subH_cons rfl subH_nil))))
      · simp only
        rw [take_snocM (zip_get hb hz), List.foldl_append, ← hn]; rfl
      · simp only
        rw [hm3.1]; unfold rgW; omega
    · simp at h4
      obtain rfl : x = r.length := by omega
      (repeat (first | refine zI ?_ | refine zL ?_ | refine zC ?_ | refine L_nil ?_ | refine A_seq ?_ | refine zR ?_ | refine zD ?_ | refine zK ?_ | refine zB ?_ | refine zA ?_ | refine zS ?_ | refine zU ?_ | refine zV ?_ | refine zF ?_ | with_reducible refine inblk_n ?_ | with_reducible refine then_n ?_ | refine A_block ?_ | refine A_skip ?_ | refine A_exit ?_ | refine zT ?_ | refine zE ?_ | refine zX ?_))
      rw [List.take_of_length_le (by simp; omega)] at hn
      rw [List.take_length] at hm'
      refine rnd (v + 1, n) ⟨by simp only; omega, ?_, hn0, m', ?_, hnm, hm2'⟩ (by simp only; omega) (by (repeat (first | exact subT_nil | refine subT_cons rfl ?_))) (by first | exact subH_nil | exact subH_cons rfl subH_nil | exact subH_cons rfl (subH_cons rfl subH_nil) | exact subH_cons rfl (subH_cons rfl (subH_cons rfl subH_nil)) | exact subH_cons rfl (subH_cons rfl (subH_cons rfl (subH_cons rfl subH_nil))))
      · simp only
        rw [take_snocM (zip_get hr hs), List.foldl_append, ← hk]; exact hn
      · simp only
        rw [take_snocM hr, List.flatten_append, cntL_app, hm]; simpa using hm'
  · simp at h3
    obtain rfl : v = tbl.length := by omega
    (repeat (first | refine zI ?_ | refine zL ?_ | refine zC ?_ | refine L_nil ?_ | refine A_seq ?_ | refine zR ?_ | refine zD ?_ | refine zK ?_ | refine zB ?_ | refine zA ?_ | refine zS ?_ | refine zU ?_ | refine zV ?_ | refine zF ?_ | with_reducible refine inblk_n ?_ | with_reducible refine then_n ?_ | refine A_block ?_ | refine A_skip ?_ | refine A_exit ?_ | refine zT ?_ | refine zE ?_ | refine zX ?_))
    refine A_ret ?_; refine ⟨_, rfl, ?_⟩
    rw [List.take_of_length_le (by simp; omega)] at hk
    refine Frz.tup2 (frz_i64 ?_) Frz.pure
    rw [hk]; rfl
end Go.Proofs.YtenajilnjeafpaaGreat
set_option linter.unusedVariables false
set_option maxRecDepth 100000
set_option maxHeartbeats 8000000
namespace Go.Proofs.YtenajilnjeafpaaGreat
open Go.RowKit
theorem rnumber_con (p : ProgD) (g : GraphD) (c : List (List Int)) (hf : Fair p g) (hc : CfgIn c) (h1 : fitsF p g = 0) (hin : cfgInB (tableF p g) c = true) (h2 : (countF (tableF p g)).2 = 0) : Con Tryz.prog 47 [encP p, encG g, encC c] (i64 (rankTab (tableF p g) c)) := by
  have hcl := hc.1
  have ht := table_in hf h1
  obtain ⟨q, hq, _⟩ := countF_some h2
  have hends := tends_con p g hf h1
  generalize htb : tableF p g = tbl at ht hin hq hends
  have htl := ht.1
  obtain ⟨hlen, hcfg⟩ := cfg_get hin
  refine con_of Tryz.func47 rfl rfl Tryz.ntmps47 Tryz.results47 rfl rfl ?_
  (repeat (first | refine zI ?_ | refine zL ?_ | refine zC ?_ | refine L_nil ?_ | refine A_seq ?_ | refine zR ?_ | refine zD ?_ | refine zK ?_ | refine zB ?_ | refine zA ?_ | refine zS ?_ | refine zU ?_ | refine zV ?_ | refine zF ?_ | with_reducible refine inblk_n ?_ | with_reducible refine then_n ?_ | refine A_block ?_ | refine A_skip ?_ | refine A_exit ?_ | refine zT ?_ | refine zE ?_ | refine zX ?_))
  refine A_inv (α := Nat × Int) (fun a => [(8, i64 a.1), (7, i64 a.2), (2, encC c), (3, .lp 3 0), (4, .lp 4 0)]) (fun _ => pgF p g 3 4) (fun a => c.length - a.1) (fun a => a.1 ≤ c.length ∧ a.2 = ((tbl.zip c).take a.1).foldl (fun k q => rankRow k q.1 q.2) 0 ∧ 0 ≤ a.2 ∧ ∃ m, cntL 1 (tbl.take a.1).flatten = some m ∧ a.2 < m ∧ m ≤ 32768) (0, 0) ⟨by simp, rfl, by simp, 1, rfl, by simp, by simp⟩ (by (repeat (first | exact subT_nil | refine subT_cons rfl ?_))) (by first | exact subH_nil | exact subH_cons rfl subH_nil | exact subH_cons rfl (subH_cons rfl subH_nil) | exact subH_cons rfl (subH_cons rfl (subH_cons rfl subH_nil)) | exact subH_cons rfl (subH_cons rfl (subH_cons rfl (subH_cons rfl subH_nil)))) ?_
  rintro ⟨v, k⟩ ⟨hv, hk, hk0, m, hm, hkm, hm2⟩
  simp only at hv hk hk0 hm hkm ⊢
  (repeat (first | refine zI ?_ | refine zL ?_ | refine zC ?_ | refine L_nil ?_ | refine A_seq ?_ | refine zR ?_ | refine zD ?_ | refine zK ?_ | refine zB ?_ | refine zA ?_ | refine zS ?_ | refine zU ?_ | refine zV ?_ | refine zF ?_ | with_reducible refine inblk_n ?_ | with_reducible refine then_n ?_ | refine A_block ?_ | refine A_skip ?_ | refine A_exit ?_ | refine zT ?_ | refine zE ?_ | refine zX ?_))
  refine A_cond rfl (fun h3 => ?_) (fun h3 => ?_)
  · simp at h3
    obtain ⟨r, hr⟩ := getN (show v < tbl.length by omega)
    obtain ⟨s, hs, hst⟩ := hcfg v r hr
    obtain ⟨hsl, hsg⟩ := state_get hst
    obtain ⟨hrl, hrq⟩ := ht.2 r (List.mem_of_getElem? hr)
    have hflat : cntL 1 ((tbl.take v).flatten ++ (r ++ (tbl.drop (v + 1)).flatten)) = some q := by
      rw [← hq, ← List.append_assoc]
      congr 1
      conv => rhs; rw [← List.take_append_drop (v + 1) tbl, take_snocM hr]
      simp
    (repeat (first | refine zI ?_ | refine zL ?_ | refine zC ?_ | refine L_nil ?_ | refine A_seq ?_ | refine zR ?_ | refine zD ?_ | refine zK ?_ | refine zB ?_ | refine zA ?_ | refine zS ?_ | refine zU ?_ | refine zV ?_ | refine zF ?_ | with_reducible refine inblk_n ?_ | with_reducible refine then_n ?_ | refine A_block ?_ | refine A_skip ?_ | refine A_exit ?_ | refine zT ?_ | refine zE ?_ | refine zX ?_))
    refine A_inv (α := Nat × Int) (fun a => [(9, i64 a.1), (7, i64 a.2), (8, i64 v), (2, encC c), (3, .lp 3 0), (4, .lp 4 0)]) (fun _ => pgF p g 3 4) (fun a => r.length - a.1) (fun a => a.1 ≤ r.length ∧ a.2 = ((r.zip s).take a.1).foldl rankStep k ∧ 0 ≤ a.2 ∧ ∃ m', cntL m (r.take a.1) = some m' ∧ a.2 < m' ∧ m' ≤ 32768) (0, k) ⟨by simp, rfl, hk0, m, rfl, hkm, hm2⟩ (by (repeat (first | exact subT_nil | refine subT_cons rfl ?_))) (by first | exact subH_nil | exact subH_cons rfl subH_nil | exact subH_cons rfl (subH_cons rfl subH_nil) | exact subH_cons rfl (subH_cons rfl (subH_cons rfl subH_nil)) | exact subH_cons rfl (subH_cons rfl (subH_cons rfl (subH_cons rfl subH_nil)))) ?_
    rintro ⟨x, n⟩ ⟨hx, hn, hn0, m', hm', hnm, hm2'⟩
    simp only at hx hn hn0 hm' hnm ⊢
    (repeat (first | refine zI ?_ | refine zL ?_ | refine zC ?_ | refine L_nil ?_ | refine A_seq ?_ | refine zR ?_ | refine zD ?_ | refine zK ?_ | refine zB ?_ | refine zA ?_ | refine zS ?_ | refine zU ?_ | refine zV ?_ | refine zF ?_ | with_reducible refine inblk_n ?_ | with_reducible refine then_n ?_ | refine A_block ?_ | refine A_skip ?_ | refine A_exit ?_ | refine zT ?_ | refine zE ?_ | refine zX ?_))
    refine A_cond rfl (fun h4 => ?_) (fun h4 => ?_)
    · simp at h4
      obtain ⟨b, hb⟩ := getN (show x < r.length by omega)
      obtain ⟨z, hz, hz1, hz2⟩ := hsg x b hb
      obtain ⟨b1, b2, b3⟩ := hrq b (List.mem_of_getElem? hb)
      have hbd := rank_bd (k := n) (m := m') (w := b.2 - b.1 + 1) (d := z - b.1) hn0 hnm (by omega) (by omega) (by omega) hm2'
      obtain ⟨m'', hm'', hm3⟩ : ∃ m'', cntL m (r.take (x + 1)) = some m'' ∧ m'' = m' * rgW b ∧ m'' ≤ 32768 := by
        have hsp := cntL_split hflat
        obtain ⟨ma, e1, e2⟩ := hsp
        rw [hm] at e1
        cases e1
        rw [← List.take_append_drop (x + 1) r, List.append_assoc] at e2
        obtain ⟨mb, e3, _⟩ := cntL_split e2
        refine ⟨mb, e3, ?_⟩
        rw [take_snocM hb] at e3
        obtain ⟨mc, e4, e5⟩ := cntL_split e3
        rw [hm'] at e4
        cases e4
        exact cntL_one e5
      (repeat (first | refine zI ?_ | refine zL ?_ | refine zC ?_ | refine L_nil ?_ | refine A_seq ?_ | refine zR ?_ | refine zD ?_ | refine zK ?_ | refine zB ?_ | refine zA ?_ | refine zS ?_ | refine zU ?_ | refine zV ?_ | refine zF ?_ | with_reducible refine inblk_n ?_ | with_reducible refine then_n ?_ | refine A_block ?_ | refine A_skip ?_ | refine A_exit ?_ | refine zT ?_ | refine zE ?_ | refine zX ?_ | refine L_call rfl rfl (hends v x r b hr hb) rfl rfl ?_))
      refine rnd (x + 1, n * (b.2 - b.1 + 1) + z - b.1) ⟨by simp only; omega, ?_, by simp only; omega, m'', hm'', ?_, hm3.2⟩ (by simp only; omega) (by (repeat (first | exact subT_nil | refine subT_cons rfl ?_))) (by first | exact subH_nil | exact subH_cons rfl subH_nil | exact subH_cons rfl (subH_cons rfl subH_nil) | exact subH_cons rfl (subH_cons rfl (subH_cons rfl subH_nil)) | exact subH_cons rfl (subH_cons rfl (subH_cons rfl (subH_cons rfl subH_nil))))
      · simp only
        rw [take_snocM (zip_get hb hz), List.foldl_append, ← hn]; rfl
      · simp only
        rw [hm3.1]; unfold rgW; omega
    · simp at h4
      obtain rfl : x = r.length := by omega
      (repeat (first | refine zI ?_ | refine zL ?_ | refine zC ?_ | refine L_nil ?_ | refine A_seq ?_ | refine zR ?_ | refine zD ?_ | refine zK ?_ | refine zB ?_ | refine zA ?_ | refine zS ?_ | refine zU ?_ | refine zV ?_ | refine zF ?_ | with_reducible refine inblk_n ?_ | with_reducible refine then_n ?_ | refine A_block ?_ | refine A_skip ?_ | refine A_exit ?_ | refine zT ?_ | refine zE ?_ | refine zX ?_))
      rw [List.take_of_length_le (by simp; omega)] at hn
      rw [List.take_length] at hm'
      refine rnd (v + 1, n) ⟨by simp only; omega, ?_, hn0, m', ?_, hnm, hm2'⟩ (by simp only; omega) (by (repeat (first | exact subT_nil | refine subT_cons rfl ?_))) (by first | exact subH_nil | exact subH_cons rfl subH_nil | exact subH_cons rfl (subH_cons rfl subH_nil) | exact subH_cons rfl (subH_cons rfl (subH_cons rfl subH_nil)) | exact subH_cons rfl (subH_cons rfl (subH_cons rfl (subH_cons rfl subH_nil))))
      · simp only
        rw [take_snocM (zip_get hr hs), List.foldl_append, ← hk]; exact hn
      · simp only
        rw [take_snocM hr, List.flatten_append, cntL_app, hm]; simpa using hm'
  · simp at h3
    obtain rfl : v = c.length := by omega
    (repeat (first | refine zI ?_ | refine zL ?_ | refine zC ?_ | refine L_nil ?_ | refine A_seq ?_ | refine zR ?_ | refine zD ?_ | refine zK ?_ | refine zB ?_ | refine zA ?_ | refine zS ?_ | refine zU ?_ | refine zV ?_ | refine zF ?_ | with_reducible refine inblk_n ?_ | with_reducible refine then_n ?_ | refine A_block ?_ | refine A_skip ?_ | refine A_exit ?_ | refine zT ?_ | refine zE ?_ | refine zX ?_))
    refine A_ret ?_; refine ⟨_, rfl, ?_⟩
    rw [List.take_of_length_le (by simp; omega)] at hk
    refine frz_i64 ?_
    rw [hk]; rfl
theorem rrank_con (p : ProgD) (g : GraphD) (c : List (List Int)) (hf : Fair p g) (hc : CfgIn c) : Con Tryz.prog 21 [encP p, encG g, encC c] (pairI (rankM p g c)) := by
  refine con_of Tryz.func21 rfl rfl Tryz.ntmps21 Tryz.results21 rfl rfl ?_
  (repeat (first | refine zI ?_ | refine zL ?_ | refine zC ?_ | refine L_nil ?_ | refine A_seq ?_ | refine zR ?_ | refine zD ?_ | refine zK ?_ | refine zB ?_ | refine zA ?_ | refine zS ?_ | refine zU ?_ | refine zV ?_ | refine zF ?_ | with_reducible refine inblk_n ?_ | with_reducible refine then_n ?_ | refine A_block ?_ | refine A_skip ?_ | refine A_exit ?_ | refine zT ?_ | refine zE ?_ | refine zX ?_ | refine L_call rfl rfl (rcheck_con p g c hf hc) rfl rfl ?_))
  refine A_cond rfl (fun h => ?_) (fun h => ?_)
  · (repeat (first | refine zI ?_ | refine zL ?_ | refine zC ?_ | refine L_nil ?_ | refine A_seq ?_ | refine zR ?_ | refine zD ?_ | refine zK ?_ | refine zB ?_ | refine zA ?_ | refine zS ?_ | refine zU ?_ | refine zV ?_ | refine zF ?_ | with_reducible refine inblk_n ?_ | with_reducible refine then_n ?_ | refine A_block ?_ | refine A_skip ?_ | refine A_exit ?_ | refine zT ?_ | refine zE ?_ | refine zX ?_))
    refine A_ret ?_; refine ⟨_, rfl, ?_⟩
    have : checkM p g c ≠ 0 := by simpa using h
    rw [rankM, if_neg this]
    exact Frz.pure
  have h0 : checkM p g c = 0 := by simpa using h
  obtain ⟨h1, hin⟩ := check_zero.1 h0
  have hcm : countM p g = countF (tableF p g) := by rw [countM, if_pos h1]
  have hcon := rcount_con p g hf
  rw [hcm] at hcon
  (repeat (first | refine zI ?_ | refine zL ?_ | refine zC ?_ | refine L_nil ?_ | refine A_seq ?_ | refine zR ?_ | refine zD ?_ | refine zK ?_ | refine zB ?_ | refine zA ?_ | refine zS ?_ | refine zU ?_ | refine zV ?_ | refine zF ?_ | with_reducible refine inblk_n ?_ | with_reducible refine then_n ?_ | refine A_block ?_ | refine A_skip ?_ | refine A_exit ?_ | refine zT ?_ | refine zE ?_ | refine zX ?_ | refine L_call rfl rfl hcon rfl rfl ?_))
  refine A_cond rfl (fun h2 => ?_) (fun h2 => ?_)
  · (repeat (first | refine zI ?_ | refine zL ?_ | refine zC ?_ | refine L_nil ?_ | refine A_seq ?_ | refine zR ?_ | refine zD ?_ | refine zK ?_ | refine zB ?_ | refine zA ?_ | refine zS ?_ | refine zU ?_ | refine zV ?_ | refine zF ?_ | with_reducible refine inblk_n ?_ | with_reducible refine then_n ?_ | refine A_block ?_ | refine A_skip ?_ | refine A_exit ?_ | refine zT ?_ | refine zE ?_ | refine zX ?_))
    refine A_ret ?_; refine ⟨_, rfl, ?_⟩
    have : (countF (tableF p g)).2 ≠ 0 := by simpa using h2
    rw [rankM, if_pos h0, if_neg this]
    exact Frz.pure
  have h2' : (countF (tableF p g)).2 = 0 := by simpa using h2
  rw [rankM, if_pos h0, if_pos h2']
  (repeat (first | refine zI ?_ | refine zL ?_ | refine zC ?_ | refine L_nil ?_ | refine A_seq ?_ | refine zR ?_ | refine zD ?_ | refine zK ?_ | refine zB ?_ | refine zA ?_ | refine zS ?_ | refine zU ?_ | refine zV ?_ | refine zF ?_ | with_reducible refine inblk_n ?_ | with_reducible refine then_n ?_ | refine A_block ?_ | refine A_skip ?_ | refine A_exit ?_ | refine zT ?_ | refine zE ?_ | refine zX ?_ | refine L_call rfl rfl (rnumber_con p g c hf hc h1 hin h2') rfl rfl ?_))
  refine A_ret ?_; refine ⟨_, rfl, ?_⟩
  exact Frz.pure
end Go.Proofs.YtenajilnjeafpaaGreat
