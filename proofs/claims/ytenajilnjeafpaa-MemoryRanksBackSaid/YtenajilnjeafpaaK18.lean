/- Part 18 of the texts under MemoryRanksBack: joined, with what it needs alone. -/
import Derived.Test.YtenajilnjeafpaaRows
import Derived.Test.YtenajilnjeafpaaK4
import Derived.Test.YtenajilnjeafpaaK7
import Derived.Test.YtenajilnjeafpaaK10
import Derived.Test.YtenajilnjeafpaaK14
import Derived.Test.YtenajilnjeafpaaK17
set_option linter.unusedVariables false
set_option maxRecDepth 100000
set_option maxHeartbeats 8000000
namespace Go.Proofs.Ytenajilnjeafpaa
open Go.RowKit
def wOk (b : Int × Int) : Prop := 1 ≤ rgW b ∧ rgW b ≤ 1000002
theorem rgOk_w {b : Int × Int} (h : RgOk b) : wOk b := by obtain ⟨h1, h2, h3⟩ := h; unfold wOk rgW; omega
def satStep (n : Int) (b : Int × Int) : Int := if (1073741824 : Int) < n * rgW b then 1073741824 else n * rgW b
theorem mul_ge {n w : Int} (h1 : 1 ≤ n) (hw : 1 ≤ w) : n ≤ n * w := by
  have := Int.mul_le_mul_of_nonneg_left hw (show 0 ≤ n by omega); simpa using this
theorem sat_ge : ∀ (r : List (Int × Int)) (n : Int), 1 ≤ n → n ≤ 1073741824 → (∀ b ∈ r, wOk b) → n ≤ r.foldl satStep n ∧ r.foldl satStep n ≤ 1073741824
  | [], n, h1, h2, _ => ⟨Int.le_refl _, h2⟩
  | b :: r, n, h1, h2, hw => by
    have hb := mul_ge h1 (hw b (by simp)).1
    simp only [List.foldl_cons]
    by_cases h : (1073741824 : Int) < n * rgW b
    · rw [satStep, if_pos h]
      have := sat_ge r 1073741824 (by omega) (by omega) fun x hx => hw x (by simp [hx])
      omega
    · rw [satStep, if_neg h]
      have := sat_ge r (n * rgW b) (by omega) (by omega) fun x hx => hw x (by simp [hx])
      omega
theorem sat_cnt : ∀ (r : List (Int × Int)) (n : Int), 1 ≤ n → n ≤ 32768 → (∀ b ∈ r, wOk b) → (∀ q, cntL n r = some q → r.foldl satStep n = q ∧ q ≤ 32768) ∧ (cntL n r = none → 32768 < r.foldl satStep n)
  | [], n, h1, h2, _ => ⟨fun q h => by simp only [cntL, Option.some.injEq] at h; subst h; exact ⟨rfl, h2⟩, fun h => by cases h⟩
  | b :: r, n, h1, h2, hw => by
    have hb := mul_ge h1 (hw b (by simp)).1
    have hr : ∀ x ∈ r, wOk x := fun x hx => hw x (by simp [hx])
    by_cases h : 32768 < n * (b.2 - b.1 + 1)
    · refine ⟨fun q hq => (by simp only [cntL, if_pos h] at hq; cases hq), fun _ => ?_⟩
      simp only [List.foldl_cons, satStep]
      by_cases h3 : (1073741824 : Int) < n * rgW b
      · rw [if_pos h3]
        have := sat_ge r 1073741824 (by omega) (by omega) hr
        omega
      · rw [if_neg h3]
        have := sat_ge r (n * rgW b) (by omega) (by omega) hr
        unfold rgW at this hb h3 ⊢
        omega
    · have e : satStep n b = n * (b.2 - b.1 + 1) := by unfold satStep rgW; rw [if_neg (by omega)]
      have ih := sat_cnt r (n * (b.2 - b.1 + 1)) (by unfold rgW at hb; omega) (by omega) hr
      simp only [List.foldl_cons, cntL, if_neg h, e]
      exact ih
theorem cnt_scale : ∀ (r : List (Int × Int)) (n m : Int), 1 ≤ n → 1 ≤ m → (∀ b ∈ r, wOk b) → n * m ≤ 32768 → cntL (n * m) r = match cntL m r with
    | some q => if 32768 < n * q then none else some (n * q)
    | none => none
  | [], n, m, hn, hm, _, h => by simp only [cntL]; rw [if_neg (by omega)]
  | b :: r, n, m, hn, hm, hw, h => by
    have hb := mul_ge hm (hw b (by simp)).1
    have hr : ∀ x ∈ r, wOk x := fun x hx => hw x (by simp [hx])
    have hnm : n * m * (b.2 - b.1 + 1) = n * (m * (b.2 - b.1 + 1)) := Int.mul_assoc _ _ _
    have hpos : 1 ≤ m * (b.2 - b.1 + 1) := by unfold rgW at hb; omega
    have hle : m * (b.2 - b.1 + 1) ≤ n * (m * (b.2 - b.1 + 1)) := by
      have := Int.mul_le_mul_of_nonneg_right hn (show 0 ≤ m * (b.2 - b.1 + 1) by omega)
      simpa using this
    simp only [cntL]
    rw [hnm]
    by_cases h1 : 32768 < m * (b.2 - b.1 + 1)
    · rw [if_pos h1, if_pos (by omega)]
    · rw [if_neg h1]
      by_cases h2 : 32768 < n * (m * (b.2 - b.1 + 1))
      · rw [if_pos h2]
        cases hq : cntL (m * (b.2 - b.1 + 1)) r with
        | none => rfl
        | some q =>
          have hge : m * (b.2 - b.1 + 1) ≤ q := by
            have e := ((sat_cnt r (m * (b.2 - b.1 + 1)) hpos (by omega) hr).1 q hq).1
            have := (sat_ge r (m * (b.2 - b.1 + 1)) hpos (by omega) hr).1
            omega
          have : n * (m * (b.2 - b.1 + 1)) ≤ n * q := Int.mul_le_mul_of_nonneg_left hge (by omega)
          simp only
          rw [if_pos (by omega)]
      · rw [if_neg h2]
        exact cnt_scale r n _ hn hpos hr (by omega)
theorem size_table {p : ProgD} {g : GraphD} {v : Nat} {r : List (Int × Int)} (h0 : fitsF p g = 0) (hr : (tableF p g)[v]? = some r) : sizeF p g v = r.foldl satStep 1 := by
  simp only [tableF, List.getElem?_map] at hr
  cases hg : g.ports[v]? with
  | none => rw [hg] at hr; cases hr
  | some ls =>
    rw [hg] at hr
    cases hr
    have hv := (List.getElem?_eq_some_iff.1 hg).1
    have hd : degAt g v = ls.length := deg_at (by simpa using hg)
    rw [sizeF, if_pos h0, if_pos (by omega), List.foldl_map, hd]
    rfl
theorem rcount_con (p : ProgD) (g : GraphD) (hf : Fair p g) : Con Try.prog 8 [encP p, encG g] (pairI (countM p g)) := by
  have hgl := hf.glen
  refine con_of Try.func8 rfl rfl Try.ntmps8 Try.results8 rfl rfl ?_
  (repeat (first | refine zI ?_ | refine zL ?_ | refine zC ?_ | refine L_nil ?_ | refine A_seq ?_ | refine zR ?_ | refine zD ?_ | refine zK ?_ | refine zB ?_ | refine zA ?_ | refine zS ?_ | refine zU ?_ | refine zV ?_ | refine zF ?_ | with_reducible refine inblk_n ?_ | with_reducible refine then_n ?_ | refine A_block ?_ | refine A_skip ?_ | refine A_exit ?_ | refine zT ?_ | refine zE ?_ | refine zX ?_ | refine L_call rfl rfl (rfits_con p g hf) rfl rfl ?_))
  refine A_cond rfl (fun h => ?_) (fun h => ?_)
  · (repeat (first | refine zI ?_ | refine zL ?_ | refine zC ?_ | refine L_nil ?_ | refine A_seq ?_ | refine zR ?_ | refine zD ?_ | refine zK ?_ | refine zB ?_ | refine zA ?_ | refine zS ?_ | refine zU ?_ | refine zV ?_ | refine zF ?_ | with_reducible refine inblk_n ?_ | with_reducible refine then_n ?_ | refine A_block ?_ | refine A_skip ?_ | refine A_exit ?_ | refine zT ?_ | refine zE ?_ | refine zX ?_))
    refine A_ret ?_; refine ⟨_, rfl, ?_⟩
    have : fitsF p g ≠ 0 := by simpa using h
    rw [countM, if_neg this]
    exact Frz.pure
  have h0 : fitsF p g = 0 := by simpa using h
  have ht := table_in hf h0
  have htl : (tableF p g).length = g.ports.length := by simp [tableF]
  rw [countM, if_pos h0]
  (repeat (first | refine zI ?_ | refine zL ?_ | refine zC ?_ | refine L_nil ?_ | refine A_seq ?_ | refine zR ?_ | refine zD ?_ | refine zK ?_ | refine zB ?_ | refine zA ?_ | refine zS ?_ | refine zU ?_ | refine zV ?_ | refine zF ?_ | with_reducible refine inblk_n ?_ | with_reducible refine then_n ?_ | refine A_block ?_ | refine A_skip ?_ | refine A_exit ?_ | refine zT ?_ | refine zE ?_ | refine zX ?_))
  refine A_inv (α := Nat × Int) (fun a => [(8, i64 a.1), (7, i64 a.2), (2, .lp 2 0), (3, .lp 3 0)]) (fun k => [(2, some (.cells [strA p.name, .sl 6 (p.vars.map encVar), .sl 3 (p.rules.map encRule)])), (3, some (.cells [encInts g.ids, encPorts g.ports]))]) (fun a => g.ports.length - a.1) (fun a => a.1 ≤ g.ports.length ∧ 1 ≤ a.2 ∧ a.2 ≤ 32768 ∧ cntL 1 ((tableF p g).take a.1).flatten = some a.2) (0, 1) ⟨by simp, by simp, by simp, rfl⟩ (by (repeat (first | exact subT_nil | refine subT_cons rfl ?_))) (by first | exact subH_nil | exact subH_cons rfl subH_nil | exact subH_cons rfl (subH_cons rfl subH_nil) | exact subH_cons rfl (subH_cons rfl (subH_cons rfl subH_nil)) | exact subH_cons rfl (subH_cons rfl (subH_cons rfl (subH_cons rfl subH_nil)))) ?_
  rintro ⟨k, n⟩ ⟨hk, hn1, hn2, hn⟩
  simp only at hk hn1 hn2 hn ⊢
  (repeat (first | refine zI ?_ | refine zL ?_ | refine zC ?_ | refine L_nil ?_ | refine A_seq ?_ | refine zR ?_ | refine zD ?_ | refine zK ?_ | refine zB ?_ | refine zA ?_ | refine zS ?_ | refine zU ?_ | refine zV ?_ | refine zF ?_ | with_reducible refine inblk_n ?_ | with_reducible refine then_n ?_ | refine A_block ?_ | refine A_skip ?_ | refine A_exit ?_ | refine zT ?_ | refine zE ?_ | refine zX ?_))
  refine A_cond rfl (fun h1 => ?_) (fun h1 => ?_)
  · simp at h1
    obtain ⟨r, hr⟩ := getN (show k < (tableF p g).length by omega)
    have hw : ∀ b ∈ r, wOk b := fun b hb => rgOk_w ((ht.2 r (List.mem_of_getElem? hr)).2 b hb)
    have hsz := size_table h0 hr
    obtain ⟨q, hq⟩ : ∃ q, q = sizeF p g k := ⟨_, rfl⟩
    obtain ⟨hs1, hs2⟩ := sat_cnt r 1 (by omega) (by omega) hw
    have hsg := sat_ge r 1 (by omega) (by omega) hw
    have hsc := cnt_scale r n 1 hn1 (by omega) hw (by omega)
    rw [Int.mul_one] at hsc
    have hflat : ((tableF p g).take (k + 1)).flatten = ((tableF p g).take k).flatten ++ r := by rw [take_snocM hr]; simp
    have hrest : cntL n r = none → (0, 3) = countF (tableF p g) := by
      intro e
      have e2 : cntL 1 (tableF p g).flatten = none := by
        conv => lhs; rw [← List.take_append_drop (k + 1) (tableF p g), List.flatten_append, hflat]
        rw [cntL_app, cntL_app, hn, Option.bind_some, e]; rfl
      simp only [countF, e2]
    rw [← hsz, ← hq] at hs1 hs2 hsg
    (repeat (first | refine zI ?_ | refine zL ?_ | refine zC ?_ | refine L_nil ?_ | refine A_seq ?_ | refine zR ?_ | refine zD ?_ | refine zK ?_ | refine zB ?_ | refine zA ?_ | refine zS ?_ | refine zU ?_ | refine zV ?_ | refine zF ?_ | with_reducible refine inblk_n ?_ | with_reducible refine then_n ?_ | refine A_block ?_ | refine A_skip ?_ | refine A_exit ?_ | refine zT ?_ | refine zE ?_ | refine zX ?_ | refine L_call rfl rfl (rsize_con p g k hf) rfl rfl ?_))
    rw [← hq]
    refine L_split 29 rfl (fun h2 => ?_) (fun h2 => ?_)
    · (repeat (first | refine zI ?_ | refine zL ?_ | refine zC ?_ | refine L_nil ?_ | refine A_seq ?_ | refine zR ?_ | refine zD ?_ | refine zK ?_ | refine zB ?_ | refine zA ?_ | refine zS ?_ | refine zU ?_ | refine zV ?_ | refine zF ?_ | with_reducible refine inblk_n ?_ | with_reducible refine then_n ?_ | refine A_block ?_ | refine A_skip ?_ | refine A_exit ?_ | refine zT ?_ | refine zE ?_ | refine zX ?_))
      refine A_ret ?_; refine ⟨_, rfl, ?_⟩
      simp at h2
      rw [← hrest ?_]
      · exact Frz.pure
      · rw [hsc]
        cases hc : cntL 1 r with
        | none => rfl
        | some z => have := hs1 z hc; omega
    · simp at h2
      obtain ⟨z, hz⟩ : ∃ z, cntL 1 r = some z := by
        cases hc : cntL 1 r with
        | none => have := hs2 hc; omega
        | some z => exact ⟨z, rfl⟩
      have hqz := (hs1 z hz).1
      have hbd := mulM_bd (n := n) (w := q) hn1 hn2 (by omega) (by omega)
      rw [hz] at hsc
      simp only at hsc
      rw [← hqz] at hsc
      (repeat (first | refine zI ?_ | refine zL ?_ | refine zC ?_ | refine L_nil ?_ | refine A_seq ?_ | refine zR ?_ | refine zD ?_ | refine zK ?_ | refine zB ?_ | refine zA ?_ | refine zS ?_ | refine zU ?_ | refine zV ?_ | refine zF ?_ | with_reducible refine inblk_n ?_ | with_reducible refine then_n ?_ | refine A_block ?_ | refine A_skip ?_ | refine A_exit ?_ | refine zT ?_ | refine zE ?_ | refine zX ?_))
      refine A_cond rfl (fun h3 => ?_) (fun h3 => ?_)
      · (repeat (first | refine zI ?_ | refine zL ?_ | refine zC ?_ | refine L_nil ?_ | refine A_seq ?_ | refine zR ?_ | refine zD ?_ | refine zK ?_ | refine zB ?_ | refine zA ?_ | refine zS ?_ | refine zU ?_ | refine zV ?_ | refine zF ?_ | with_reducible refine inblk_n ?_ | with_reducible refine then_n ?_ | refine A_block ?_ | refine A_skip ?_ | refine A_exit ?_ | refine zT ?_ | refine zE ?_ | refine zX ?_))
        refine A_ret ?_; refine ⟨_, rfl, ?_⟩
        simp at h3
        rw [← hrest (by rw [hsc, if_pos h3])]
        exact Frz.pure
      · (repeat (first | refine zI ?_ | refine zL ?_ | refine zC ?_ | refine L_nil ?_ | refine A_seq ?_ | refine zR ?_ | refine zD ?_ | refine zK ?_ | refine zB ?_ | refine zA ?_ | refine zS ?_ | refine zU ?_ | refine zV ?_ | refine zF ?_ | with_reducible refine inblk_n ?_ | with_reducible refine then_n ?_ | refine A_block ?_ | refine A_skip ?_ | refine A_exit ?_ | refine zT ?_ | refine zE ?_ | refine zX ?_))
        simp at h3
        refine rnd (k + 1, n * q) ⟨by simp only; omega, hbd.1, by simp only; omega, ?_⟩ (by simp only; omega) (by (repeat (first | exact subT_nil | refine subT_cons rfl ?_))) (by first | exact subH_nil | exact subH_cons rfl subH_nil | exact subH_cons rfl (subH_cons rfl subH_nil) | exact subH_cons rfl (subH_cons rfl (subH_cons rfl subH_nil)) | exact subH_cons rfl (subH_cons rfl (subH_cons rfl (subH_cons rfl subH_nil))))
        simp only
        rw [hflat, cntL_app, hn, Option.bind_some, hsc, if_neg (by omega)]
  · simp at h1
    obtain rfl : k = g.ports.length := by omega
    (repeat (first | refine zI ?_ | refine zL ?_ | refine zC ?_ | refine L_nil ?_ | refine A_seq ?_ | refine zR ?_ | refine zD ?_ | refine zK ?_ | refine zB ?_ | refine zA ?_ | refine zS ?_ | refine zU ?_ | refine zV ?_ | refine zF ?_ | with_reducible refine inblk_n ?_ | with_reducible refine then_n ?_ | refine A_block ?_ | refine A_skip ?_ | refine A_exit ?_ | refine zT ?_ | refine zE ?_ | refine zX ?_))
    refine A_ret ?_; refine ⟨_, rfl, ?_⟩
    rw [← htl, List.take_length] at hn
    simp only [countF, hn]
    exact Frz.pure
end Go.Proofs.Ytenajilnjeafpaa
set_option linter.unusedVariables false
set_option maxRecDepth 100000
set_option maxHeartbeats 8000000
namespace Go.Proofs.Ytenajilnjeafpaa
open Go.RowKit
def twP : ProgD := ⟨"a".toUTF8, [⟨"b".toUTF8, 2, 0, 0, 0, 0⟩], []⟩
def twG : GraphD := ⟨[0, 1], [[(1, 1)], [(0, 1)]]⟩
theorem twF : Fair twP twG := by
  refine ⟨⟨by decide, fun x hx => ?_, fun r hr => by simp [twP] at hr⟩, light_of (by decide), by decide⟩
  simp [twP] at hx
  subst hx
  unfold VarIn In64
  decide +kernel
def twA : AV := .agg [strA "a".toUTF8, .sl 6 [[strA "b".toUTF8, i64 2, i64 0, i64 0, i64 0, i64 0]], .v (.slice none 0 0)]
theorem twA_wk : Wk twA (encP twP) := wk_agg (.cons (wk_refl _) (.cons (wk_refl _) (.cons (wk_nil 3) .nil)))
theorem two_con : Con Try.prog 15 [] (.tup [twA, encG twG]) := by
  refine con_ofT tok Try.func15 rfl rfl Try.ntmps15 Try.results15 rfl rfl ?_
  (repeat (first | refine zI ?_ | refine zL ?_ | refine zC ?_ | refine L_nil ?_ | refine A_seq ?_ | refine zR ?_ | refine zD ?_ | refine zK ?_ | refine zB ?_ | refine zA ?_ | refine zS ?_ | refine zU ?_ | refine zV ?_ | refine zF ?_ | with_reducible refine inblk_n ?_ | with_reducible refine then_n ?_ | refine A_block ?_ | refine A_skip ?_ | refine A_exit ?_ | refine zT ?_ | refine zE ?_ | refine zX ?_))
  refine A_ret ?_; refine ⟨_, rfl, ?_⟩
  exact Frz.pure
theorem awake10_con : Con Try.prog 6 [] (boolA true) := by
  have hc : countM twP twG = (4, 0) := by decide +kernel
  have hu : unrankM twP twG 2 = ([[1], [0]], 0) := by decide +kernel
  have e1 := mcount_con twP twG twF
  have e2 := munrank_con twP twG 2 twF
  rw [hc] at e1
  rw [hu] at e2
  have f1 := Con.weak (.cons twA_wk (.cons (wk_refl _) .nil)) e1
  have f2 := Con.weak (.cons twA_wk (.cons (wk_refl _) (.cons (wk_refl _) .nil))) e2
  refine con_of Try.func6 rfl rfl Try.ntmps6 Try.results6 rfl rfl ?_
  (repeat (first | refine zI ?_ | refine zL ?_ | refine zC ?_ | refine L_nil ?_ | refine A_seq ?_ | refine zR ?_ | refine zD ?_ | refine zK ?_ | refine zB ?_ | refine zA ?_ | refine zS ?_ | refine zU ?_ | refine zV ?_ | refine zF ?_ | with_reducible refine inblk_n ?_ | with_reducible refine then_n ?_ | refine A_block ?_ | refine A_skip ?_ | refine A_exit ?_ | refine zT ?_ | refine zE ?_ | refine zX ?_ | refine L_call rfl rfl two_con rfl rfl ?_ | refine L_call rfl rfl f1 rfl rfl ?_ | refine L_call rfl rfl f2 rfl rfl ?_ | refine L_index tok rfl rfl rfl (by omega) rfl rfl rfl ?_))
  refine A_ret ?_; refine ⟨_, rfl, ?_⟩
  exact frz_bool rfl
end Go.Proofs.Ytenajilnjeafpaa
set_option linter.unusedVariables false
set_option maxRecDepth 100000
set_option maxHeartbeats 8000000
namespace Go.Proofs.Ytenajilnjeafpaa
open Go.RowKit
theorem cfg_shape {p : ProgD} {g : GraphD} {c : List (List Int)} (hf : Fair p g) (h0 : fitsF p g = 0) (hs : Shape (tableF p g) c) : CfgIn c := by
  obtain ⟨h1, h2⟩ := cfg_rows hf h0 hs
  exact ⟨by omega, fun r hr => by have := h2 r hr; omega⟩
theorem unTab_get (k : Int) : ∀ (t : List (List (Int × Int))) (v : Nat) (r : List (Int × Int)), t[v]? = some r → (unTab k t).1[v]? = some (unRow (unTab k (t.drop (v + 1))).2 r).1
  | [], v, r, h => by simp at h
  | q :: t, 0, r, h => by simp only [List.getElem?_cons_zero, Option.some.injEq] at h; subst h; simp [unTab]
  | q :: t, v + 1, r, h => by
    simp only [List.getElem?_cons_succ] at h
    have := unTab_get k t v r h
    simpa [unTab] using this
theorem shape_un (k : Int) (tbl : List (List (Int × Int))) : Shape tbl (unTab k tbl).1 := ⟨unTab_len k tbl, fun v r hr => ⟨_, unTab_get k tbl v r hr, unRow_len _ r⟩⟩
variable {P : Program} {N : Nat} {ops : Array Oper} {lf : Oper → Bool} {Q : SS → Prop} {t : List (Nat × AV)} {h : List (Nat × Option LObj)}
/-- A Bool that is true. -/
theorem L_true {l : List Oper} (d : Nat) {b : Bool} (hb : look t d = some (.v (.bool b))) (he : b = true) (k : Lex P N ops lf Q l (S ((d, .v (.bool true)) :: t) h)) : Lex P N ops lf Q l (S t h) :=
  L_split d hb (fun _ => k) (fun e => by rw [he] at e; cases e)
end Go.Proofs.Ytenajilnjeafpaa
set_option linter.unusedVariables false
set_option maxRecDepth 100000
set_option maxHeartbeats 8000000
namespace Go.Proofs.Ytenajilnjeafpaa
open Go.RowKit
def wprod : List (Int × Int) → Int
  | [] => 1
  | b :: l => rgW b * wprod l
theorem wprod_pos : ∀ {l : List (Int × Int)}, (∀ b ∈ l, wOk b) → 1 ≤ wprod l
  | [], _ => by simp [wprod]
  | b :: l, h => by
    have h1 := (h b (by simp)).1
    have h2 := wprod_pos (l := l) fun x hx => h x (by simp [hx])
    have := Int.mul_le_mul_of_nonneg_right h1 (show 0 ≤ wprod l by omega)
    simp only [wprod]
    omega
theorem cntL_prod : ∀ {l : List (Int × Int)} {n q : Int}, cntL n l = some q → q = n * wprod l
  | [], n, q, h => by simp only [cntL, Option.some.injEq] at h; simp [wprod, h]
  | b :: l, n, q, h => by
    simp only [cntL] at h
    split at h
    · cases h
    · have := cntL_prod h
      rw [this, wprod, ← Int.mul_assoc]; rfl
theorem rankRow_cons (s : Int) (b : Int × Int) (r : List (Int × Int)) (z : Int) (ds : List Int) : rankRow s (b :: r) (z :: ds) = rankRow (s * rgW b + z - b.1) r ds := rfl
theorem rankRow_app : ∀ {l1 l2 : List (Int × Int)} {p q : List Int} {s : Int}, l1.length = p.length → rankRow s (l1 ++ l2) (p ++ q) = rankRow (rankRow s l1 p) l2 q
  | [], l2, [], q, s, _ => rfl
  | b :: l1, l2, z :: p, q, s, h => by
    rw [List.cons_append, List.cons_append, rankRow_cons, rankRow_cons]
    exact rankRow_app (by simpa using h)
/-- Ranks grow with what stands ahead. -/
theorem rank_lin : ∀ {l : List (Int × Int)} {ds : List Int} (s : Int), (∀ b ∈ l, wOk b) → stateB l ds = true → rankRow s l ds = s * wprod l + rankRow 0 l ds ∧ 0 ≤ rankRow 0 l ds ∧ rankRow 0 l ds < wprod l
  | [], ds, s, _, h => by
    obtain ⟨h1, _⟩ := state_get h
    obtain rfl : ds = [] := List.eq_nil_of_length_eq_zero h1
    simp [rankRow, wprod]
  | b :: l, [], s, _, h => by obtain ⟨h1, _⟩ := state_get h; simp at h1
  | b :: l, z :: ds, s, hw, h => by
    obtain ⟨hlen, hg⟩ := state_get h
    obtain ⟨z', hz', hz1, hz2⟩ := hg 0 b rfl
    simp only [List.getElem?_cons_zero, Option.some.injEq] at hz'
    subst hz'
    have hst : stateB l ds = true := by
      simp only [stateB, Bool.and_eq_true, List.zip_cons_cons, List.all_cons, beq_iff_eq, List.length_cons] at h ⊢
      exact ⟨by omega, h.2.2⟩
    have hwl : ∀ x ∈ l, wOk x := fun x hx => hw x (by simp [hx])
    obtain ⟨i1, i2, i3⟩ := rank_lin (l := l) (ds := ds) (s * rgW b + z - b.1) hwl hst
    obtain ⟨j1, _, _⟩ := rank_lin (l := l) (ds := ds) (0 * rgW b + z - b.1) hwl hst
    rw [rankRow_cons, rankRow_cons, i1, j1]
    have hp := wprod_pos hwl
    have hd0 : 0 ≤ (0 * rgW b + z - b.1) := by omega
    have hd1 : (0 * rgW b + z - b.1) + 1 ≤ rgW b := by unfold rgW; omega
    have hm0 : 0 ≤ (0 * rgW b + z - b.1) * wprod l := Int.mul_nonneg hd0 (by omega)
    have hm1 : ((0 * rgW b + z - b.1) + 1) * wprod l ≤ rgW b * wprod l := Int.mul_le_mul_of_nonneg_right hd1 (by omega)
    rw [Int.add_mul, Int.one_mul] at hm1
    simp only [wprod]
    refine ⟨?_, by omega, by omega⟩
    have e1 : (s * rgW b + z - b.1) * wprod l = s * (rgW b * wprod l) + (0 * rgW b + z - b.1) * wprod l := by
      rw [show s * rgW b + z - b.1 = s * rgW b + (0 * rgW b + z - b.1) by omega, Int.add_mul, Int.mul_assoc]
    omega
theorem unRow_rank (k : Int) (hk : 0 ≤ k) : ∀ (l : List (Int × Int)), (∀ b ∈ l, RgOk b) → stateB l (unRow k l).1 = true ∧ k = (unRow k l).2 * wprod l + rankRow 0 l (unRow k l).1
  | [], _ => by simp [unRow, stateB, wprod, rankRow]
  | b :: l, h => by
    have hl : ∀ x ∈ l, RgOk x := fun x hx => h x (by simp [hx])
    obtain ⟨i1, i2⟩ := unRow_rank k hk l hl
    have hb := h b (by simp)
    have hq := (unRow_bd hk l hl).1
    have hw1 : 1 ≤ rgW b := by unfold rgW; have := hb.2.1; omega
    obtain ⟨m1, m2⟩ := tmod_bd (w := rgW b) hq hw1
    have hdiv : (unRow k l).2 = (unRow k l).2.tdiv (rgW b) * rgW b + (unRow k l).2.tmod (rgW b) := (Int.tdiv_mul_add_tmod _ _).symm
    refine ⟨?_, ?_⟩
    · simp only [unRow, stateB, Bool.and_eq_true, List.zip_cons_cons, List.all_cons, beq_iff_eq, List.length_cons] at i1 ⊢
      refine ⟨by omega, ?_, i1.2⟩
      simp only [inRg, Bool.and_eq_true, decide_eq_true_eq]
      simp only [rgW] at m1 m2 ⊢
      omega
    · simp only [unRow, rankRow_cons, wprod]
      obtain ⟨j1, _⟩ := rank_lin (l := l) (ds := (unRow k l).1) (0 * rgW b + (b.1 + (unRow k l).2.tmod (rgW b)) - b.1) (fun x hx => rgOk_w (hl x hx)) i1
      rw [j1]
      generalize (unRow k l).2.tdiv (rgW b) = Q at *
      generalize (unRow k l).2.tmod (rgW b) = R at *
      have e : (0 * rgW b + (b.1 + R) - b.1) * wprod l = R * wprod l := by congr 1; omega
      rw [e, ← Int.mul_assoc, ← Int.add_assoc, ← Int.add_mul, ← hdiv]
      exact i2
theorem unRow_app (k : Int) : ∀ (a b : List (Int × Int)), unRow k (a ++ b) = ((unRow (unRow k b).2 a).1 ++ (unRow k b).1, (unRow (unRow k b).2 a).2)
  | [], b => by simp [unRow]
  | x :: a, b => by simp [unRow, unRow_app k a b]
theorem unTab_flat (k : Int) : ∀ (t : List (List (Int × Int))), (unTab k t).1.flatten = (unRow k t.flatten).1 ∧ (unTab k t).2 = (unRow k t.flatten).2
  | [] => by simp [unTab, unRow]
  | r :: t => by
    obtain ⟨h1, h2⟩ := unTab_flat k t
    simp only [unTab, List.flatten_cons, unRow_app, h1, h2, and_self]
theorem rankTab_flat : ∀ {t : List (List (Int × Int))} {c : List (List Int)} (s : Int), cfgInB t c = true → (t.zip c).foldl (fun k q => rankRow k q.1 q.2) s = rankRow s t.flatten c.flatten ∧ stateB t.flatten c.flatten = true
  | [], c, s, h => by
    obtain ⟨h1, _⟩ := cfg_get h
    obtain rfl : c = [] := List.eq_nil_of_length_eq_zero h1
    exact ⟨rfl, rfl⟩
  | r :: t, [], s, h => by obtain ⟨h1, _⟩ := cfg_get h; simp at h1
  | r :: t, x :: c, s, h => by
    have hx : stateB r x = true := by
      obtain ⟨x', h1, h2⟩ := (cfg_get h).2 0 r rfl
      simp only [List.getElem?_cons_zero, Option.some.injEq] at h1
      rw [h1]; exact h2
    have hc : cfgInB t c = true := by
      simp only [cfgInB, Bool.and_eq_true, List.zip_cons_cons, List.all_cons, beq_iff_eq, List.length_cons] at h ⊢
      exact ⟨by omega, h.2.2⟩
    obtain ⟨i1, i2⟩ := rankTab_flat (t := t) (c := c) (rankRow s r x) hc
    obtain ⟨hl, _⟩ := state_get hx
    refine ⟨?_, ?_⟩
    · rw [List.flatten_cons, List.flatten_cons, rankRow_app hl.symm]
      exact i1
    · simp only [stateB, Bool.and_eq_true, beq_iff_eq] at hx i2 ⊢
      rw [List.flatten_cons, List.flatten_cons, List.zip_append hl.symm, List.all_append, hx.2, i2.2]
      exact ⟨by simp [hx.1, i2.1], rfl⟩
theorem un_valid {t : List (List (Int × Int))} (k : Int) (hk : 0 ≤ k) (ht : ∀ r ∈ t, ∀ b ∈ r, RgOk b) : cfgInB t (unTab k t).1 = true := by
  simp only [cfgInB, Bool.and_eq_true, beq_iff_eq]
  refine ⟨unTab_len k t, List.all_eq_true.2 fun q hq => ?_⟩
  obtain ⟨v, hv⟩ := List.getElem?_of_mem hq
  rw [List.getElem?_zip_eq_some] at hv
  have := unTab_get k t v _ hv.1
  rw [this] at hv
  obtain ⟨hr, hs⟩ := hv
  simp only [Option.some.injEq] at hs
  rw [← hs]
  have hb := unTab_bd hk (t.drop (v + 1)) fun r hr => ht r (List.mem_of_mem_drop hr)
  exact (unRow_rank _ hb.1 q.1 (ht _ (List.mem_of_getElem? hr))).1
/-- The rank of the configuration with a number is the number. -/
theorem rank_un {t : List (List (Int × Int))} {k n : Int} (hk : 0 ≤ k) (ht : ∀ r ∈ t, ∀ b ∈ r, RgOk b) (hn : cntL 1 t.flatten = some n) (hkn : k < n) : rankTab t (unTab k t).1 = k := by
  have hfl : ∀ b ∈ t.flatten, RgOk b := fun b hb => by obtain ⟨r, hr, hb⟩ := List.mem_flatten.1 hb; exact ht r hr b hb
  obtain ⟨h1, _⟩ := rankTab_flat 0 (un_valid k hk ht)
  obtain ⟨f1, f2⟩ := unTab_flat k t
  obtain ⟨i1, i2⟩ := unRow_rank k hk t.flatten hfl
  have hW := cntL_prod hn
  rw [Int.one_mul] at hW
  obtain ⟨_, l2, l3⟩ := rank_lin 0 (fun b hb => rgOk_w (hfl b hb)) i1
  have hq := (unRow_bd hk t.flatten hfl).1
  have hp := wprod_pos fun b hb => rgOk_w (hfl b hb)
  have hz : (unRow k t.flatten).2 = 0 := by
    rcases Int.lt_or_le 0 (unRow k t.flatten).2 with h | h
    · have := Int.mul_le_mul_of_nonneg_right (show 1 ≤ (unRow k t.flatten).2 by omega) (show 0 ≤ wprod t.flatten by omega)
      rw [Int.one_mul] at this
      omega
    · omega
  rw [rankTab, h1, f1]
  rw [hz, Int.zero_mul, Int.zero_add] at i2
  exact i2.symm
/-- The first place at which two configurations differ decides their order. -/
theorem rank_first {t : List (List (Int × Int))} {c d : List (List Int)} (hw : ∀ b ∈ t.flatten, wOk b) (hc : cfgInB t c = true) (hd : cfgInB t d = true) {v x : Nat} {s s' : List Int} {z z' : Int} (hs : c[v]? = some s) (hs' : d[v]? = some s') (hz : s[x]? = some z) (hz' : s'[x]? = some z') (h1 : c.take v = d.take v) (h2 : s.take x = s'.take x) (hlt : z < z') : rankTab t c < rankTab t d := by
  obtain ⟨r1, q1⟩ := rankTab_flat 0 hc
  obtain ⟨r2, q2⟩ := rankTab_flat 0 hd
  rw [rankTab, rankTab, r1, r2]
  have split : ∀ (c : List (List Int)) (s : List Int) (z : Int), c[v]? = some s → s[x]? = some z → c.flatten = ((c.take v).flatten ++ s.take x) ++ z :: (s.drop (x + 1) ++ (c.drop (v + 1)).flatten) := by
    intro c s z hs hz
    conv => lhs; rw [← List.take_append_drop v c, drop_getM hs, List.flatten_append, List.flatten_cons]
    conv => lhs; rw [← List.take_append_drop x s, drop_getM hz]
    simp
  have e1 := split c s z hs hz
  have e2 := split d s' z' hs' hz'
  rw [← h1, ← h2] at e2
  generalize (c.take v).flatten ++ s.take x = P at e1 e2
  generalize s.drop (x + 1) ++ (c.drop (v + 1)).flatten = C2 at e1
  generalize s'.drop (x + 1) ++ (d.drop (v + 1)).flatten = D2 at e2
  rw [e1] at q1 ⊢
  rw [e2] at q2 ⊢
  generalize t.flatten = l at *
  have g1 := state_get q1
  have g2 := state_get q2
  have hPl : P.length < l.length := by have := g1.1; simp at this; omega
  obtain ⟨b, hb⟩ := getN hPl
  have hsp : l = l.take P.length ++ (b :: l.drop (P.length + 1)) := by rw [← drop_getM hb, List.take_append_drop]
  have hl1 : (l.take P.length).length = P.length := by simp; omega
  have hst : ∀ (y : Int) (Q : List Int), stateB l (P ++ y :: Q) = true → stateB (l.drop (P.length + 1)) Q = true := by
    intro y Q h
    rw [hsp] at h
    simp only [stateB, Bool.and_eq_true, beq_iff_eq] at h ⊢
    rw [List.zip_append hl1, List.all_append, List.zip_cons_cons, List.all_cons] at h
    simp only [Bool.and_eq_true, List.length_append, List.length_cons, hl1] at h
    exact ⟨by omega, h.2.2.2⟩
  have w2 : ∀ b ∈ l.drop (P.length + 1), wOk b := fun b hb => hw b (List.mem_of_mem_drop hb)
  rw [hsp, rankRow_app hl1, rankRow_app hl1, rankRow_cons, rankRow_cons]
  generalize rankRow 0 (l.take P.length) P = S0
  obtain ⟨a1, a2, a3⟩ := rank_lin (S0 * rgW b + z - b.1) w2 (hst z C2 q1)
  obtain ⟨b1, b2, b3⟩ := rank_lin (S0 * rgW b + z' - b.1) w2 (hst z' D2 q2)
  rw [a1, b1]
  have hp := wprod_pos w2
  have := Int.mul_le_mul_of_nonneg_right (show (S0 * rgW b + z - b.1) + 1 ≤ S0 * rgW b + z' - b.1 by omega) (show 0 ≤ wprod (l.drop (P.length + 1)) by omega)
  rw [Int.add_mul, Int.one_mul] at this
  omega
end Go.Proofs.Ytenajilnjeafpaa
set_option linter.unusedVariables false
namespace Go.Proofs.Ytenajilnjeafpaa
open Go.RowKit

theorem terms_rel {w : World} {lv : Live} {v : Value} {l : List Tm} (h : Terms w v l) : Rel (okW w) w lv (encTerms l) v :=
  rel_plain (g := fun t : Tm => [.int .i64 t.1, .int .i64 t.2]) (fun _ => rfl) (fun x u hu => by simp at hu; rcases hu with rfl | rfl <;> rfl) h
theorem vars_rel {w : World} {lv : Live} {v : Value} {l : List VarD} (h : VarsOk w v l) : Rel (okW w) w lv (.sl 6 (l.map encVar)) v :=
  rel_plain (g := varCells) (fun _ => rfl) (fun x u hu => by simp [varCells] at hu; rcases hu with rfl | rfl | rfl | rfl | rfl | rfl <;> rfl) h
theorem prog_rel {w : World} {lv : Live} {v : Value} {p : ProgD} (h : ProgOk w v p) : Rel (okW w) w lv (encP p) v := by
  obtain ⟨vv, rv, rfl, h1, h2⟩ := h
  have h3 : RelAll (okW w) w lv [strA p.name, .sl 6 (p.vars.map encVar), .sl 3 (p.rules.map encRule)] [.string p.name, vv, rv] := by
    refine relAll_cons (.v _) (relAll_cons (vars_rel h1) (relAll_cons ?_ relAll_nil))
    refine rel_of_seq h2 (fun _ => rfl) (fun x c hc => by simp [encRule] at hc; rcases hc with rfl | rfl | rfl <;> rfl) fun x _ cs hc => ?_
    obtain ⟨gv, sv, rfl, q1, q2⟩ := hc
    refine relAll_cons (.v _) (relAll_cons (terms_rel q1) (relAll_cons ?_ relAll_nil))
    refine rel_of_seq q2 (fun _ => rfl) (fun x c hc => by simp [encSet] at hc; rcases hc with rfl | rfl <;> rfl) fun x _ cs hc => ?_
    obtain ⟨tv, rfl, r1⟩ := hc
    exact relAll_cons (.v _) (relAll_cons (terms_rel r1) relAll_nil)
  exact .agg _ h3.1 (fun c hc => by simp at hc; rcases hc with rfl | rfl | rfl <;> rfl) h3.2
end Go.Proofs.Ytenajilnjeafpaa
set_option linter.unusedVariables false
set_option maxRecDepth 100000
namespace Go.Proofs.Ytenajilnjeafpaa
open Go.ChangeShapes Go.WideShapes Go.RowKit

/-- A slice of pairs of integers. -/
def Pairs (w : World) (v : Value) (l : List Lk) : Prop := Row w v 2 l.length (l.flatMap fun t => [.int .i64 t.1, .int .i64 t.2])
theorem Pairs.below {w w' : World} {v : Value} {l : List Lk} (h : Pairs w v l) (hb : Below w.heap.size w w') : Pairs w' v l := Row.below h hb
theorem Pairs.open {w : World} {v : Value} {l : List Lk} (h : Pairs w v l) : ∃ a cap, v = .slice a l.length cap ∧ l.length ≤ cap ∧ cap ≤ 9223372036854775807 ∧
    (0 < l.length → ∃ g o, a = some ⟨g, o, none⟩ ∧ g < w.heap.size ∧ ∀ i t, l[i]? = some t → w.cell? ⟨g, o + i * 2, none⟩ = some (.int .i64 t.1) ∧ w.cell? ⟨g, o + i * 2 + 1, none⟩ = some (.int .i64 t.2)) := by
  obtain ⟨a, cap, hv, h1, h2, h3, h4⟩ := Row.open h
  refine ⟨a, cap, hv, h1, h2, fun hn => ?_⟩
  obtain ⟨g, o, ha, hg, hc⟩ := h4 hn
  exact ⟨g, o, ha, hg, fun i t ht => ⟨hc _ _ (flat_get _ 2 (fun _ => rfl) l i 0 t _ ht rfl), hc _ _ (flat_get _ 2 (fun _ => rfl) l i 1 t _ ht rfl)⟩⟩
def LinksOk (w : World) (cs : List Value) (l : List Lk) : Prop := ∃ v, cs = [v] ∧ Pairs w v l
theorem LinksOk.below {w w' : World} {cs : List Value} {l : List Lk} (hb : Below w.heap.size w w') (h : LinksOk w cs l) : LinksOk w' cs l := by
  obtain ⟨v, h1, h2⟩ := h
  exact ⟨v, h1, h2.below hb⟩
def PortsOk (w : World) (v : Value) (ports : List (List Lk)) : Prop := Seq (LinksOk w) 1 w v ports
theorem PortsOk.below {w w' : World} {v : Value} {l : List (List Lk)} (h : PortsOk w v l) (hb : Below w.heap.size w w') : PortsOk w' v l := Seq.below h hb fun _ _ => LinksOk.below hb
def GraphOk (w : World) (v : Value) (g : GraphD) : Prop := ∃ iv pv, v = .agg #[iv, pv] ∧ Ints .i64 w iv g.ids ∧ PortsOk w pv g.ports
theorem GraphOk.below {w w' : World} {v : Value} {g : GraphD} (h : GraphOk w v g) (hb : Below w.heap.size w w') : GraphOk w' v g := by
  obtain ⟨iv, pv, h1, h2, h3⟩ := h
  exact ⟨iv, pv, h1, h2.below hb, h3.below hb⟩
def LinkIn (t : Lk) : Prop := In64 t.1 ∧ In64 t.2
def GraphIn (g : GraphD) : Prop := (∀ x ∈ g.ids, In64 x) ∧ ∀ l ∈ g.ports, ∀ t ∈ l, LinkIn t

/-- A slice of elements, opened for a walk. -/
theorem seqOpen {α : Type} {R : List Value → α → Prop} {size : Nat} {w : World} {v : Value} {l : List α} (h : Seq R size w v l) : ∃ a cap, v = .slice a l.length cap ∧ l.length ≤ cap ∧ cap ≤ 9223372036854775807 ∧
    (0 < l.length → ∃ g o, a = some ⟨g, o, none⟩ ∧ g < w.heap.size ∧ ∀ i x, l[i]? = some x → ∃ cs, cs.length = size ∧ R cs x ∧ ∀ j u, cs[j]? = some u → w.cell? ⟨g, o + i * size + j, none⟩ = some u) := by
  obtain ⟨xs, h1, h2⟩ := h
  have hlen : xs.length = l.length * size := by obtain ⟨_, _, _, _, _, h, _⟩ := h1; exact h
  obtain ⟨a, cap, hv, h3, h4, _, h5⟩ := Row.open h1
  refine ⟨a, cap, hv, h3, h4, fun hn => ?_⟩
  obtain ⟨g, o, ha, hg, hc⟩ := h5 hn
  refine ⟨g, o, ha, hg, fun i x hx => ⟨_, ?_, h2 i x hx, fun j u hu => ?_⟩⟩
  · have hi := (List.getElem?_eq_some_iff.1 hx).1
    rw [List.length_take, List.length_drop, hlen]
    have : i * size + size ≤ l.length * size := by rw [← Nat.succ_mul]; exact Nat.mul_le_mul_right _ hi
    omega
  · rw [List.getElem?_take] at hu
    split at hu
    · rw [List.getElem?_drop] at hu
      have := hc _ u hu
      rw [← Nat.add_assoc] at this
      exact this
    · cases hu
theorem PortsOk.open {w : World} {v : Value} {l : List (List Lk)} (h : PortsOk w v l) : ∃ a cap, v = .slice a l.length cap ∧ l.length ≤ cap ∧ cap ≤ 9223372036854775807 ∧
    (0 < l.length → ∃ g o, a = some ⟨g, o, none⟩ ∧ g < w.heap.size ∧ ∀ i x, l[i]? = some x → ∃ pv, Pairs w pv x ∧ w.cell? ⟨g, o + i, none⟩ = some pv) := by
  obtain ⟨a, cap, hv, h3, h4, h5⟩ := seqOpen h
  refine ⟨a, cap, hv, h3, h4, fun hn => ?_⟩
  obtain ⟨g, o, ha, hg, hc⟩ := h5 hn
  refine ⟨g, o, ha, hg, fun i x hx => ?_⟩
  obtain ⟨cs, _, ⟨pv, rfl, q1⟩, q2⟩ := hc i x hx
  have := q2 0 _ rfl
  rw [Nat.mul_one, Nat.add_zero] at this
  exact ⟨pv, q1, this⟩

theorem gcellsInt : Try.prog.cellsOf 3 = 1 := by kernel_rfl
theorem cellsLink : Try.prog.cellsOf 72 = 2 := by kernel_rfl
theorem cellsInts : Try.prog.cellsOf 26 = 1 := by kernel_rfl
theorem cellsLinks : Try.prog.cellsOf 53 = 1 := by kernel_rfl
theorem cellsPorts : Try.prog.cellsOf 27 = 1 := by kernel_rfl
theorem cellsGraph : Try.prog.cellsOf 29 = 2 := by kernel_rfl
section
variable {H : Type} {enc : TypeId × Value → H} {w : World} {cs : List Value} {v : Value} {base : Nat} {d : DataW H} {ps : List MemPlace}
theorem rd_link (h : Rd enc Try.prog w 72 cs) : ∃ t : Lk, cs = [.int .i64 t.1, .int .i64 t.2] ∧ LinkIn t := by
  obtain ⟨h1, h2⟩ := rd_struct Try.underlying72 h
  rw [cellsLink] at h1
  match cs, h1 with
  | [a, b], _ =>
    have g0 := h2 0 _ rfl
    have g1 := h2 1 _ rfl
    simp [gcellsInt] at g0 g1
    obtain ⟨x, hx, hx'⟩ := rd_int64 Try.underlying3 g0
    obtain ⟨y, hy, hy'⟩ := rd_int64 Try.underlying3 g1
    simp at hx hy
    exact ⟨(x, y), by simp [hx, hy], hx', hy'⟩
theorem rd_links (h : Rd enc Try.prog w 53 cs) : ∃ l, LinksOk w cs l ∧ ∀ t ∈ l, LinkIn t := by
  obtain ⟨v, l, h1, h2⟩ := open_seq (R := fun cs (t : Lk) => cs = [.int .i64 t.1, .int .i64 t.2] ∧ LinkIn t) Try.underlying53 cellsLink (Nat.succ_pos 1) (fun cs h => rd_link h) h
  refine ⟨l, ⟨v, h1, seq_flat (fun t : Lk => [.int .i64 t.1, .int .i64 t.2]) (fun _ => rfl) (by omega) h2 (fun cs x h => h.1)⟩, fun x hx => ?_⟩
  obtain ⟨xs, _, h3⟩ := h2
  obtain ⟨i, hi⟩ := List.getElem?_of_mem hx
  exact (h3 i x hi).2
theorem rd_ints (h : Rd enc Try.prog w 26 cs) : ∃ v l, cs = [v] ∧ Ints .i64 w v l ∧ ∀ x ∈ l, In64 x := by
  obtain ⟨v, l, h1, hl⟩ := open_seq (R := fun cs x => cs = [.int .i64 x] ∧ In64 x) Try.underlying26 gcellsInt Nat.one_pos (fun cs h => by obtain ⟨n, h1, h2⟩ := rd_int64 Try.underlying3 h; exact ⟨n, h1, h2⟩) h
  refine ⟨v, l, h1, ?_, fun x hx => ?_⟩
  · have := seq_flat (fun x => [.int .i64 x]) (fun _ => rfl) Nat.one_pos hl (fun cs x h => h.1)
    unfold Ints
    rwa [flat_one l] at this
  · obtain ⟨xs, _, h2⟩ := hl
    obtain ⟨i, hi⟩ := List.getElem?_of_mem hx
    exact (h2 i x hi).2
theorem rd_ports (h : Rd enc Try.prog w 27 cs) : ∃ v l, cs = [v] ∧ PortsOk w v l ∧ ∀ x ∈ l, ∀ t ∈ x, LinkIn t := by
  obtain ⟨v, l, h1, h2⟩ := open_seq (R := fun cs l => LinksOk w cs l ∧ ∀ t ∈ l, LinkIn t) Try.underlying27 cellsLinks Nat.one_pos (fun cs h => rd_links h) h
  refine ⟨v, l, h1, h2.imp fun _ _ _ h => h.1, fun x hx => ?_⟩
  obtain ⟨xs, _, h3⟩ := h2
  obtain ⟨i, hi⟩ := List.getElem?_of_mem hx
  exact (h3 i x hi).2
theorem open_graph (hv : Value.okWide Try.prog w .any base 29 v) (h : DataW.Trod enc Try.prog w 0 (fun _ => true) true 29 v d ps) : ∃ g, GraphOk w v g ∧ GraphIn g := by
  obtain ⟨cs, rfl, hcs⟩ : ∃ cs, v = .agg cs ∧ cs.size = Try.prog.cellsOf 29 := by
    unfold Value.okWide at hv
    rw [Try.underlying29] at hv
    obtain ⟨cs, h1, h2, _⟩ := hv
    exact ⟨cs, h1, h2⟩
  have hr := rd_of h
  simp only [Value.cells] at hr
  obtain ⟨h1, h2⟩ := rd_struct Try.underlying29 hr
  rw [cellsGraph] at h1
  obtain ⟨cs⟩ := cs
  simp only at h1 h2
  match cs, h1 with
  | [a, b], _ =>
    have g0 := h2 0 _ rfl
    have g1 := h2 1 _ rfl
    simp [cellsInts, cellsPorts] at g0 g1
    obtain ⟨iv, l, e2, q2, q3⟩ := rd_ints g0
    obtain ⟨pv, rr, e3, q4, q5⟩ := rd_ports g1
    simp at e2 e3
    exact ⟨⟨l, rr⟩, ⟨iv, pv, by simp [e2, e3], q2, q4⟩, q3, q5⟩
end
end Go.Proofs.Ytenajilnjeafpaa
set_option linter.unusedVariables false
namespace Go.Proofs.Ytenajilnjeafpaa
open Go.RowKit

theorem links_rel {w : World} {lv : Live} {v : Value} {l : List Lk} (h : Pairs w v l) : Rel (okW w) w lv (encLinks l) v :=
  rel_plain (g := fun t : Lk => [.int .i64 t.1, .int .i64 t.2]) (fun _ => rfl) (fun x u hu => by simp at hu; rcases hu with rfl | rfl <;> rfl) h
theorem graph_rel {w : World} {lv : Live} {v : Value} {g : GraphD} (h : GraphOk w v g) : Rel (okW w) w lv (encG g) v := by
  obtain ⟨iv, pv, rfl, h1, h2⟩ := h
  have h3 : RelAll (okW w) w lv [encInts g.ids, encPorts g.ports] [iv, pv] := by
    refine relAll_cons (ints_rel h1) (relAll_cons ?_ relAll_nil)
    refine rel_of_seq h2 (fun _ => rfl) (fun x c hc => by simp at hc; subst hc; rfl) fun x _ cs hc => ?_
    obtain ⟨lv', rfl, r1⟩ := hc
    exact relAll_cons (links_rel r1) relAll_nil
  exact .agg _ h3.1 (fun c hc => by simp at hc; rcases hc with rfl | rfl <;> rfl) h3.2
end Go.Proofs.Ytenajilnjeafpaa
set_option linter.unusedVariables false
set_option maxRecDepth 100000
set_option maxHeartbeats 8000000
namespace Go.Proofs.Ytenajilnjeafpaa
open Go.RowKit
theorem less_con (t : List (List (Int × Int))) (c d : List (List Int)) (hw : ∀ b ∈ t.flatten, wOk b) (hc : cfgInB t c = true) (hd : cfgInB t d = true) (hci : CfgIn c) (hdi : CfgIn d) : Con Try.prog 13 [encC c, encC d] (boolA (decide (rankTab t c < rankTab t d))) := by
  have hcl := hci.1
  have hdl := hdi.1
  have hsc := shape_of hc
  have hsd := shape_of hd
  have hlen : d.length = c.length := by rw [hsd.1, hsc.1]
  refine con_of Try.func13 rfl rfl Try.ntmps13 Try.results13 rfl rfl ?_
  (repeat (first | refine zI ?_ | refine zL ?_ | refine zC ?_ | refine L_nil ?_ | refine A_seq ?_ | refine zR ?_ | refine zD ?_ | refine zK ?_ | refine zB ?_ | refine zA ?_ | refine zS ?_ | refine zU ?_ | refine zV ?_ | refine zF ?_ | with_reducible refine inblk_n ?_ | with_reducible refine then_n ?_ | refine A_block ?_ | refine A_skip ?_ | refine A_exit ?_ | refine zT ?_ | refine zE ?_ | refine zX ?_))
  refine A_inv (α := Nat) (fun v => [(5, i64 v), (0, encC c), (1, encC d)]) (fun _ => []) (fun v => c.length - v) (fun v => v ≤ c.length ∧ c.take v = d.take v) 0 ⟨by omega, rfl⟩ (by (repeat (first | exact subT_nil | refine subT_cons rfl ?_))) (by first | exact subH_nil | exact subH_cons rfl subH_nil | exact subH_cons rfl (subH_cons rfl subH_nil) | exact subH_cons rfl (subH_cons rfl (subH_cons rfl subH_nil)) | exact subH_cons rfl (subH_cons rfl (subH_cons rfl (subH_cons rfl subH_nil)))) ?_
  intro v ⟨hv, hpre⟩
  (repeat (first | refine zI ?_ | refine zL ?_ | refine zC ?_ | refine L_nil ?_ | refine A_seq ?_ | refine zR ?_ | refine zD ?_ | refine zK ?_ | refine zB ?_ | refine zA ?_ | refine zS ?_ | refine zU ?_ | refine zV ?_ | refine zF ?_ | with_reducible refine inblk_n ?_ | with_reducible refine then_n ?_ | refine A_block ?_ | refine A_skip ?_ | refine A_exit ?_ | refine zT ?_ | refine zE ?_ | refine zX ?_))
  refine L_split 11 rfl (fun h1 => ?_) (fun h1 => ?_)
  · simp at h1
    (repeat (first | refine zI ?_ | refine zL ?_ | refine zC ?_ | refine L_nil ?_ | refine A_seq ?_ | refine zR ?_ | refine zD ?_ | refine zK ?_ | refine zB ?_ | refine zA ?_ | refine zS ?_ | refine zU ?_ | refine zV ?_ | refine zF ?_ | with_reducible refine inblk_n ?_ | with_reducible refine then_n ?_ | refine A_block ?_ | refine A_skip ?_ | refine A_exit ?_ | refine zT ?_ | refine zE ?_ | refine zX ?_))
    refine A_cond rfl (fun h2 => ?_) (fun h2 => ?_)
    · obtain ⟨r, hr⟩ := getN (show v < t.length by rw [← hsc.1]; exact h1)
      obtain ⟨s, hs, hsl⟩ := hsc.2 v r hr
      obtain ⟨s', hs', hsl'⟩ := hsd.2 v r hr
      have hsb := hci.2 s (List.mem_of_getElem? hs)
      (repeat (first | refine zI ?_ | refine zL ?_ | refine zC ?_ | refine L_nil ?_ | refine A_seq ?_ | refine zR ?_ | refine zD ?_ | refine zK ?_ | refine zB ?_ | refine zA ?_ | refine zS ?_ | refine zU ?_ | refine zV ?_ | refine zF ?_ | with_reducible refine inblk_n ?_ | with_reducible refine then_n ?_ | refine A_block ?_ | refine A_skip ?_ | refine A_exit ?_ | refine zT ?_ | refine zE ?_ | refine zX ?_))
      refine A_inv (α := Nat) (fun x => [(6, i64 x), (5, i64 v), (0, encC c), (1, encC d)]) (fun _ => []) (fun x => s.length - x) (fun x => x ≤ s.length ∧ s.take x = s'.take x) 0 ⟨by omega, rfl⟩ (by (repeat (first | exact subT_nil | refine subT_cons rfl ?_))) (by first | exact subH_nil | exact subH_cons rfl subH_nil | exact subH_cons rfl (subH_cons rfl subH_nil) | exact subH_cons rfl (subH_cons rfl (subH_cons rfl subH_nil)) | exact subH_cons rfl (subH_cons rfl (subH_cons rfl (subH_cons rfl subH_nil)))) ?_
      intro x ⟨hx, hpx⟩
      (repeat (first | refine zI ?_ | refine zL ?_ | refine zC ?_ | refine L_nil ?_ | refine A_seq ?_ | refine zR ?_ | refine zD ?_ | refine zK ?_ | refine zB ?_ | refine zA ?_ | refine zS ?_ | refine zU ?_ | refine zV ?_ | refine zF ?_ | with_reducible refine inblk_n ?_ | with_reducible refine then_n ?_ | refine A_block ?_ | refine A_skip ?_ | refine A_exit ?_ | refine zT ?_ | refine zE ?_ | refine zX ?_))
      refine L_split 26 rfl (fun h3 => ?_) (fun h3 => ?_)
      · simp at h3
        (repeat (first | refine zI ?_ | refine zL ?_ | refine zC ?_ | refine L_nil ?_ | refine A_seq ?_ | refine zR ?_ | refine zD ?_ | refine zK ?_ | refine zB ?_ | refine zA ?_ | refine zS ?_ | refine zU ?_ | refine zV ?_ | refine zF ?_ | with_reducible refine inblk_n ?_ | with_reducible refine then_n ?_ | refine A_block ?_ | refine A_skip ?_ | refine A_exit ?_ | refine zT ?_ | refine zE ?_ | refine zX ?_))
        refine A_cond rfl (fun h4 => ?_) (fun h4 => ?_)
        · obtain ⟨z, hz⟩ := getN h3
          obtain ⟨z', hz'⟩ := getN (show x < s'.length by omega)
          (repeat (first | refine zI ?_ | refine zL ?_ | refine zC ?_ | refine L_nil ?_ | refine A_seq ?_ | refine zR ?_ | refine zD ?_ | refine zK ?_ | refine zB ?_ | refine zA ?_ | refine zS ?_ | refine zU ?_ | refine zV ?_ | refine zF ?_ | with_reducible refine inblk_n ?_ | with_reducible refine then_n ?_ | refine A_block ?_ | refine A_skip ?_ | refine A_exit ?_ | refine zT ?_ | refine zE ?_ | refine zX ?_))
          refine A_cond rfl (fun h5 => ?_) (fun h5 => ?_)
          · simp at h5
            (repeat (first | refine zI ?_ | refine zL ?_ | refine zC ?_ | refine L_nil ?_ | refine A_seq ?_ | refine zR ?_ | refine zD ?_ | refine zK ?_ | refine zB ?_ | refine zA ?_ | refine zS ?_ | refine zU ?_ | refine zV ?_ | refine zF ?_ | with_reducible refine inblk_n ?_ | with_reducible refine then_n ?_ | refine A_block ?_ | refine A_skip ?_ | refine A_exit ?_ | refine zT ?_ | refine zE ?_ | refine zX ?_))
            refine A_ret ?_; refine ⟨_, rfl, ?_⟩
            refine frz_bool ?_
            rcases Int.lt_or_le z z' with hlt | hle
            · have := rank_first hw hc hd hs hs' hz hz' hpre hpx hlt
              rw [decide_eq_true hlt, decide_eq_true this]
            · have := rank_first hw hd hc hs' hs hz' hz hpre.symm hpx.symm (by omega)
              rw [decide_eq_false (by omega), decide_eq_false (by omega)]
          · simp at h5
            (repeat (first | refine zI ?_ | refine zL ?_ | refine zC ?_ | refine L_nil ?_ | refine A_seq ?_ | refine zR ?_ | refine zD ?_ | refine zK ?_ | refine zB ?_ | refine zA ?_ | refine zS ?_ | refine zU ?_ | refine zV ?_ | refine zF ?_ | with_reducible refine inblk_n ?_ | with_reducible refine then_n ?_ | refine A_block ?_ | refine A_skip ?_ | refine A_exit ?_ | refine zT ?_ | refine zE ?_ | refine zX ?_))
            exact rnd (x + 1) ⟨by omega, by rw [take_snocM hz, take_snocM hz', hpx, h5]⟩ (by omega) (by (repeat (first | exact subT_nil | refine subT_cons rfl ?_))) (by first | exact subH_nil | exact subH_cons rfl subH_nil | exact subH_cons rfl (subH_cons rfl subH_nil) | exact subH_cons rfl (subH_cons rfl (subH_cons rfl subH_nil)) | exact subH_cons rfl (subH_cons rfl (subH_cons rfl (subH_cons rfl subH_nil))))
        · exfalso; simp at h4; omega
      · simp at h3
        (repeat (first | refine zI ?_ | refine zL ?_ | refine zC ?_ | refine L_nil ?_ | refine A_seq ?_ | refine zR ?_ | refine zD ?_ | refine zK ?_ | refine zB ?_ | refine zA ?_ | refine zS ?_ | refine zU ?_ | refine zV ?_ | refine zF ?_ | with_reducible refine inblk_n ?_ | with_reducible refine then_n ?_ | refine A_block ?_ | refine A_skip ?_ | refine A_exit ?_ | refine zT ?_ | refine zE ?_ | refine zX ?_))
        have he : s = s' := list_eq_take (by omega) (show x = s.length by omega) hpx
        exact rnd (v + 1) ⟨by omega, by rw [take_snocM hs, take_snocM hs', hpre, he]⟩ (by omega) (by (repeat (first | exact subT_nil | refine subT_cons rfl ?_))) (by first | exact subH_nil | exact subH_cons rfl subH_nil | exact subH_cons rfl (subH_cons rfl subH_nil) | exact subH_cons rfl (subH_cons rfl (subH_cons rfl subH_nil)) | exact subH_cons rfl (subH_cons rfl (subH_cons rfl (subH_cons rfl subH_nil))))
    · exfalso; simp at h2; omega
  · simp at h1
    (repeat (first | refine zI ?_ | refine zL ?_ | refine zC ?_ | refine L_nil ?_ | refine A_seq ?_ | refine zR ?_ | refine zD ?_ | refine zK ?_ | refine zB ?_ | refine zA ?_ | refine zS ?_ | refine zU ?_ | refine zV ?_ | refine zF ?_ | with_reducible refine inblk_n ?_ | with_reducible refine then_n ?_ | refine A_block ?_ | refine A_skip ?_ | refine A_exit ?_ | refine zT ?_ | refine zE ?_ | refine zX ?_))
    refine A_ret ?_; refine ⟨_, rfl, ?_⟩
    have he : c = d := list_eq_take hlen.symm (show v = c.length by omega) hpre
    exact frz_bool (by rw [he]; simp)
theorem back_con (p : ProgD) (g : GraphD) (k0 j0 : Int) (hin : ProgIn p) : Con Try.prog 3 [encP p, encG g, i64 k0, i64 j0] (boolA true) := by
  refine con_of Try.func3 rfl rfl Try.ntmps3 Try.results3 rfl rfl ?_
  (repeat (first | refine zI ?_ | refine zL ?_ | refine zC ?_ | refine L_nil ?_ | refine A_seq ?_ | refine zR ?_ | refine zD ?_ | refine zK ?_ | refine zB ?_ | refine zA ?_ | refine zS ?_ | refine zU ?_ | refine zV ?_ | refine zF ?_ | with_reducible refine inblk_n ?_ | with_reducible refine then_n ?_ | refine A_block ?_ | refine A_skip ?_ | refine A_exit ?_ | refine zT ?_ | refine zE ?_ | refine zX ?_ | refine L_call rfl rfl (lightP_con p hin) rfl rfl ?_))
  refine L_split 22 rfl (fun h1 => ?_) (fun h1 => ?_)
  · (repeat (first | refine zI ?_ | refine zL ?_ | refine zC ?_ | refine L_nil ?_ | refine A_seq ?_ | refine zR ?_ | refine zD ?_ | refine zK ?_ | refine zB ?_ | refine zA ?_ | refine zS ?_ | refine zU ?_ | refine zV ?_ | refine zF ?_ | with_reducible refine inblk_n ?_ | with_reducible refine then_n ?_ | refine A_block ?_ | refine A_skip ?_ | refine A_exit ?_ | refine zT ?_ | refine zE ?_ | refine zX ?_ | refine L_call rfl rfl awake10_con rfl rfl ?_))
    refine A_ret ?_; refine ⟨_, rfl, ?_⟩
    exact frz_bool rfl
  simp at h1
  (repeat (first | refine zI ?_ | refine zL ?_ | refine zC ?_ | refine L_nil ?_ | refine A_seq ?_ | refine zR ?_ | refine zD ?_ | refine zK ?_ | refine zB ?_ | refine zA ?_ | refine zS ?_ | refine zU ?_ | refine zV ?_ | refine zF ?_ | with_reducible refine inblk_n ?_ | with_reducible refine then_n ?_ | refine A_block ?_ | refine A_skip ?_ | refine A_exit ?_ | refine zT ?_ | refine zE ?_ | refine zX ?_ | refine L_call rfl rfl (lightGraph_con g) rfl rfl ?_))
  refine A_cond rfl (fun h2 => ?_) (fun h2 => ?_)
  · (repeat (first | refine zI ?_ | refine zL ?_ | refine zC ?_ | refine L_nil ?_ | refine A_seq ?_ | refine zR ?_ | refine zD ?_ | refine zK ?_ | refine zB ?_ | refine zA ?_ | refine zS ?_ | refine zU ?_ | refine zV ?_ | refine zF ?_ | with_reducible refine inblk_n ?_ | with_reducible refine then_n ?_ | refine A_block ?_ | refine A_skip ?_ | refine A_exit ?_ | refine zT ?_ | refine zE ?_ | refine zX ?_ | refine L_call rfl rfl awake10_con rfl rfl ?_))
    refine A_ret ?_; refine ⟨_, rfl, ?_⟩
    exact frz_bool rfl
  simp at h2
  have hf : Fair p g := ⟨hin, light_of h1, h2⟩
  obtain ⟨R, hR⟩ : ∃ R, R = countM p g := ⟨_, rfl⟩
  have e1 := mcount_con p g hf
  have e2 := rcount_con p g hf
  rw [← hR] at e1 e2
  (repeat (first | refine zI ?_ | refine zL ?_ | refine zC ?_ | refine L_nil ?_ | refine A_seq ?_ | refine zR ?_ | refine zD ?_ | refine zK ?_ | refine zB ?_ | refine zA ?_ | refine zS ?_ | refine zU ?_ | refine zV ?_ | refine zF ?_ | with_reducible refine inblk_n ?_ | with_reducible refine then_n ?_ | refine A_block ?_ | refine A_skip ?_ | refine A_exit ?_ | refine zT ?_ | refine zE ?_ | refine zX ?_ | refine L_call rfl rfl e1 rfl rfl ?_))
  refine A_cond rfl (fun h3 => ?_) (fun h3 => ?_)
  · (repeat (first | refine zI ?_ | refine zL ?_ | refine zC ?_ | refine L_nil ?_ | refine A_seq ?_ | refine zR ?_ | refine zD ?_ | refine zK ?_ | refine zB ?_ | refine zA ?_ | refine zS ?_ | refine zU ?_ | refine zV ?_ | refine zF ?_ | with_reducible refine inblk_n ?_ | with_reducible refine then_n ?_ | refine A_block ?_ | refine A_skip ?_ | refine A_exit ?_ | refine zT ?_ | refine zE ?_ | refine zX ?_ | refine L_call rfl rfl e2 rfl rfl ?_ | refine L_call rfl rfl awake10_con rfl rfl ?_))
    refine L_true 48 rfl (by simp) ?_
    (repeat (first | refine zI ?_ | refine zL ?_ | refine zC ?_ | refine L_nil ?_ | refine A_seq ?_ | refine zR ?_ | refine zD ?_ | refine zK ?_ | refine zB ?_ | refine zA ?_ | refine zS ?_ | refine zU ?_ | refine zV ?_ | refine zF ?_ | with_reducible refine inblk_n ?_ | with_reducible refine then_n ?_ | refine A_block ?_ | refine A_skip ?_ | refine A_exit ?_ | refine zT ?_ | refine zE ?_ | refine zX ?_))
    refine A_ret ?_; refine ⟨_, rfl, ?_⟩
    exact frz_bool (by simp)
  have hR2 : R.2 = 0 := by simpa using h3
  have h0 : fitsF p g = 0 := by
    rw [hR, countM] at hR2
    by_cases h : fitsF p g = 0
    · exact h
    · rw [if_neg h] at hR2; exact hR2
  rw [countM, if_pos h0] at hR
  have ht := table_in hf h0
  have hrg : ∀ r ∈ tableF p g, ∀ b ∈ r, RgOk b := fun r hr => (ht.2 r hr).2
  have hwf : ∀ b ∈ (tableF p g).flatten, wOk b := fun b hb => by obtain ⟨r, hr, hb⟩ := List.mem_flatten.1 hb; exact rgOk_w (hrg r hr b hb)
  have hcf2 : (countF (tableF p g)).2 = 0 := by rw [← hR]; exact hR2
  obtain ⟨n, hn, hcn⟩ := countF_some hcf2
  rw [hcn] at hR
  subst hR
  have hnb := sat_cnt (tableF p g).flatten 1 (by omega) (by omega) hwf
  have hn1 : 1 ≤ n := by rw [cntL_prod hn]; have := wprod_pos hwf; omega
  have hn2 : n ≤ 32768 := (hnb.1 n hn).2
  (repeat (first | refine zI ?_ | refine zL ?_ | refine zC ?_ | refine L_nil ?_ | refine A_seq ?_ | refine zR ?_ | refine zD ?_ | refine zK ?_ | refine zB ?_ | refine zA ?_ | refine zS ?_ | refine zU ?_ | refine zV ?_ | refine zF ?_ | with_reducible refine inblk_n ?_ | with_reducible refine then_n ?_ | refine A_block ?_ | refine A_skip ?_ | refine A_exit ?_ | refine zT ?_ | refine zE ?_ | refine zX ?_))
  refine L_split 55 rfl (fun h4 => ?_) (fun h4 => ?_)
  · exfalso; simp at h4; omega
  (repeat (first | refine zI ?_ | refine zL ?_ | refine zC ?_ | refine L_nil ?_ | refine A_seq ?_ | refine zR ?_ | refine zD ?_ | refine zK ?_ | refine zB ?_ | refine zA ?_ | refine zS ?_ | refine zU ?_ | refine zV ?_ | refine zF ?_ | with_reducible refine inblk_n ?_ | with_reducible refine then_n ?_ | refine A_block ?_ | refine A_skip ?_ | refine A_exit ?_ | refine zT ?_ | refine zE ?_ | refine zX ?_))
  refine A_cond rfl (fun h5 => ?_) (fun h5 => ?_)
  · exfalso; simp at h5; omega
  have hk := modI_bd (a := k0) (b := n) (by omega)
  have hj := modI_bd (a := j0) (b := n) (by omega)
  have hm1 := mod_con k0 n ⟨by omega, by omega⟩
  have hm2 := mod_con j0 n ⟨by omega, by omega⟩
  generalize modI k0 n = k at hk hm1
  generalize modI j0 n = j at hj hm2
  have hu : ∀ k : Int, 0 ≤ k → k < n → Con Try.prog 10 [encP p, encG g, i64 k] (pairC ((unTab k (tableF p g)).1, 0)) := by
    intro k hk0 hkn
    have := munrank_con p g k hf
    rwa [unrankM, if_pos h0, if_pos hcf2, hcn, if_pos ⟨hk0, hkn⟩] at this
  have hcv := un_valid (t := tableF p g) k hk.1 hrg
  have hdv := un_valid (t := tableF p g) j hj.1 hrg
  have hci := cfg_shape hf h0 (shape_un k (tableF p g))
  have hdi := cfg_shape hf h0 (shape_un j (tableF p g))
  have hck : checkM p g (unTab k (tableF p g)).1 = 0 := check_zero.2 ⟨h0, hcv⟩
  have hrk := mrank_con p g (unTab k (tableF p g)).1 hf hci
  rw [rankM, if_pos hck, if_pos hcf2, rank_un hk.1 hrg hn hk.2] at hrk
  have hvv := mvalid_con p g (unTab k (tableF p g)).1 hf hci
  have hls := less_con (tableF p g) _ _ hwf hcv hdv hci hdi
  rw [rank_un hk.1 hrg hn hk.2, rank_un hj.1 hrg hn hj.2] at hls
  (repeat (first | refine zI ?_ | refine zL ?_ | refine zC ?_ | refine L_nil ?_ | refine A_seq ?_ | refine zR ?_ | refine zD ?_ | refine zK ?_ | refine zB ?_ | refine zA ?_ | refine zS ?_ | refine zU ?_ | refine zV ?_ | refine zF ?_ | with_reducible refine inblk_n ?_ | with_reducible refine then_n ?_ | refine A_block ?_ | refine A_skip ?_ | refine A_exit ?_ | refine zT ?_ | refine zE ?_ | refine zX ?_ | refine L_call rfl rfl hm1 rfl rfl ?_ | refine L_call rfl rfl hm2 rfl rfl ?_ | refine L_call rfl rfl (hu k hk.1 hk.2) rfl rfl ?_ | refine L_call rfl rfl (hu j hj.1 hj.2) rfl rfl ?_ | refine L_call rfl rfl hrk rfl rfl ?_ | refine L_call rfl rfl awake10_con rfl rfl ?_))
  refine L_true 104 rfl (by simp) ?_
  (repeat (first | refine zI ?_ | refine zL ?_ | refine zC ?_ | refine L_nil ?_ | refine A_seq ?_ | refine zR ?_ | refine zD ?_ | refine zK ?_ | refine zB ?_ | refine zA ?_ | refine zS ?_ | refine zU ?_ | refine zV ?_ | refine zF ?_ | with_reducible refine inblk_n ?_ | with_reducible refine then_n ?_ | refine A_block ?_ | refine A_skip ?_ | refine A_exit ?_ | refine zT ?_ | refine zE ?_ | refine zX ?_ | refine L_call rfl rfl hvv rfl rfl ?_))
  refine L_true 110 rfl (by simp [hck]) ?_
  (repeat (first | refine zI ?_ | refine zL ?_ | refine zC ?_ | refine L_nil ?_ | refine A_seq ?_ | refine zR ?_ | refine zD ?_ | refine zK ?_ | refine zB ?_ | refine zA ?_ | refine zS ?_ | refine zU ?_ | refine zV ?_ | refine zF ?_ | with_reducible refine inblk_n ?_ | with_reducible refine then_n ?_ | refine A_block ?_ | refine A_skip ?_ | refine A_exit ?_ | refine zT ?_ | refine zE ?_ | refine zX ?_ | refine L_call rfl rfl hls rfl rfl ?_ | refine L_eqlB tok rfl rfl rfl rfl rfl ?_))
  refine A_ret ?_; refine ⟨_, rfl, ?_⟩
  exact frz_bool (by simp)
theorem walk_MemoryRanksBack {Q2 Q3 : Prop} (v0 : Value) (z0 : ProgD) (v1 : Value) (z1 : GraphD) (a2 a3 : Int) (w : World) (h0 : ProgOk w v0 z0 ∧ ProgIn z0) (h1 : GraphOk w v1 z1 ∧ GraphIn z1) (h2 : Q2) (h3 : Q3) :
    Calls Try.prog 3 #[v0, v1, .int .i64 a2, .int .i64 a3] w fun e w' => e = .returned (.bool true) ∧ Below w.heap.size w w' :=
  calls_of_con (back_con z0 z1 a2 a3 h0.2) trivial (okW_lt w) (relAll_cons (prog_rel h0.1) (relAll_cons (graph_rel h1.1) (relAll_cons (.v _) (relAll_cons (.v _) relAll_nil))))
end Go.Proofs.Ytenajilnjeafpaa
