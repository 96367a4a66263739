/- Part 22 of the texts under ExprParses,ExprIsStable,ExprReadsBack,ExprIgnoresBrackets: joined, with what it needs alone. -/
import Derived.Test.YtcpgpiabeimefaaGreatDoorRows
import Derived.Lib.LaidTab
import Derived.Deep.DeepHandedRow
import Derived.LaidSub
import Derived.Test.YtcpgpiabeimefaaGreatDoorP1
import Derived.Test.YtcpgpiabeimefaaGreatDoorP11
import Derived.Test.YtcpgpiabeimefaaGreatDoorP21
set_option linter.unusedVariables false
set_option maxRecDepth 100000
set_option maxHeartbeats 4000000
namespace Go.Proofs.YtcpgpiabeimefaaGreatDoor
open Go.ChangeShapes Go.WideShapes Go.RowKit
theorem parseX_nil {nm : Bs → Bool} {names : List Bs} {s : ByteArray} (h : (yfq nm names s).2.2 ≠ 0) : (yfq nm names s).1 = [] := by
  unfold yfq at h ⊢
  split
  · rfl
  · rename_i hg
    rw [if_neg hg] at h
    split
    · rfl
    · rename_i ts hts
      rw [hts] at h
      split
      · rename_i res hres
        simp only [hres] at h
        cases res with
        | bad c r => rfl
        | ok e r => cases r with
          | nil =>
            simp only [ansX] at h ⊢
            split at h
            · exact absurd rfl h
            · rename_i hv
              rw [if_neg hv]
          | cons t r => rfl
      · rfl
theorem parseX_len {nm : Bs → Bool} {names : List Bs} {s : ByteArray} : (yfq nm names s).1.length ≤ 200 := by
  by_cases h : (yfq nm names s).2.2 = 0
  · obtain ⟨_, _, _, _, h3, _⟩ := valid_spec (parseX_valid h).2
    exact h3
  · rw [parseX_nil h]; exact Nat.zero_le _
theorem exprParses_con (s : ByteArray) (names : List Bs) : Con Tryz.prog 3 [strA s, ybl names] (boolA true) := by
  refine ycq Tryz.func3 rfl rfl Tryz.ntmps3 Tryz.results3 rfl rfl ?_
  (repeat (first | refine zI ?_ | refine zL ?_ | refine zC ?_ | refine yag ?_ | refine yae ?_ | refine zR ?_ | refine zD ?_ | refine zK ?_ | refine zB ?_ | refine zA ?_ | refine zS ?_ | refine zU ?_ | refine zV ?_ | refine zF ?_ | with_reducible refine yab ?_ | with_reducible refine yad ?_ | refine yaa ?_ | refine yac ?_ | refine yaf ?_ | refine zT ?_ | refine zE ?_ | refine zX ?_))
  refine ydw 14 rfl (fun h1 => ?_) (fun h1 => ?_)
  · (repeat (first | refine zI ?_ | refine zL ?_ | refine zC ?_ | refine yag ?_ | refine yae ?_ | refine zR ?_ | refine zD ?_ | refine zK ?_ | refine zB ?_ | refine zA ?_ | refine zS ?_ | refine zU ?_ | refine zV ?_ | refine zF ?_ | with_reducible refine yab ?_ | with_reducible refine yad ?_ | refine yaa ?_ | refine yac ?_ | refine yaf ?_ | refine zT ?_ | refine zE ?_ | refine zX ?_ | refine yao rfl rfl ydp rfl rfl ?_))
    refine yas ?_; refine ⟨_, rfl, ?_⟩
    exact ybz rfl
  have h1 : s.size ≤ 1000 := by simp at h1; omega
  (repeat (first | refine zI ?_ | refine zL ?_ | refine zC ?_ | refine yag ?_ | refine yae ?_ | refine zR ?_ | refine zD ?_ | refine zK ?_ | refine zB ?_ | refine zA ?_ | refine zS ?_ | refine zU ?_ | refine zV ?_ | refine zF ?_ | with_reducible refine yab ?_ | with_reducible refine yad ?_ | refine yaa ?_ | refine yac ?_ | refine yaf ?_ | refine zT ?_ | refine zE ?_ | refine zX ?_ | refine yao rfl rfl (light06_con names) rfl rfl ?_))
  refine yap rfl (fun h2 => ?_) (fun h2 => ?_)
  · (repeat (first | refine zI ?_ | refine zL ?_ | refine zC ?_ | refine yag ?_ | refine yae ?_ | refine zR ?_ | refine zD ?_ | refine zK ?_ | refine zB ?_ | refine zA ?_ | refine zS ?_ | refine zU ?_ | refine zV ?_ | refine zF ?_ | with_reducible refine yab ?_ | with_reducible refine yad ?_ | refine yaa ?_ | refine yac ?_ | refine yaf ?_ | refine zT ?_ | refine zE ?_ | refine zX ?_ | refine yao rfl rfl ydp rfl rfl ?_))
    refine yas ?_; refine ⟨_, rfl, ?_⟩
    exact ybz rfl
  have h2 : lightN names = true := by simpa using h2
  obtain ⟨l1, l2⟩ := lightN_spec h2
  have hp := parse_con s names (by omega) (by omega) (fun w hw => by have := l2 w hw; omega)
  have hr := rparse_con s names (by omega) (by omega) (fun w hw => by have := l2 w hw; omega)
  (repeat (first | refine zI ?_ | refine zL ?_ | refine zC ?_ | refine yag ?_ | refine yae ?_ | refine zR ?_ | refine zD ?_ | refine zK ?_ | refine zB ?_ | refine zA ?_ | refine zS ?_ | refine zU ?_ | refine zV ?_ | refine zF ?_ | with_reducible refine yab ?_ | with_reducible refine yad ?_ | refine yaa ?_ | refine yac ?_ | refine yaf ?_ | refine zT ?_ | refine zE ?_ | refine zX ?_ | refine yao rfl rfl hp rfl rfl ?_ | refine yao rfl rfl hr rfl rfl ?_ | refine yao rfl rfl ydp rfl rfl ?_ | refine yao rfl rfl (same_con _ _ (Nat.le_trans parseX_len (by omega))) rfl rfl ?_))
  refine L_true 40 rfl (by simp) ?_
  (repeat (first | refine zI ?_ | refine zL ?_ | refine zC ?_ | refine yag ?_ | refine yae ?_ | refine zR ?_ | refine zD ?_ | refine zK ?_ | refine zB ?_ | refine zA ?_ | refine zS ?_ | refine zU ?_ | refine zV ?_ | refine zF ?_ | with_reducible refine yab ?_ | with_reducible refine yad ?_ | refine yaa ?_ | refine yac ?_ | refine yaf ?_ | refine zT ?_ | refine zE ?_ | refine zX ?_))
  refine L_true 45 rfl (by simp) ?_
  (repeat (first | refine zI ?_ | refine zL ?_ | refine zC ?_ | refine yag ?_ | refine yae ?_ | refine zR ?_ | refine zD ?_ | refine zK ?_ | refine zB ?_ | refine zA ?_ | refine zS ?_ | refine zU ?_ | refine zV ?_ | refine zF ?_ | with_reducible refine yab ?_ | with_reducible refine yad ?_ | refine yaa ?_ | refine yac ?_ | refine yaf ?_ | refine zT ?_ | refine zE ?_ | refine zX ?_))
  refine yas ?_; refine ⟨_, rfl, ?_⟩
  exact ybz (by simp)
theorem fairE_spec {e : List Tm} {names : List Bs} (h : fairE e names = true) : e.length ≤ 250 ∧ (names.length ≤ 10 ∧ ∀ w ∈ names, w.length ≤ 40) ∧ yek nmW names = true ∧ ydc e names.length = true := by
  simp only [fairE, Bool.and_eq_true, decide_eq_true_eq] at h
  exact ⟨h.1.1.1, lightN_spec h.1.1.2, h.1.2, h.2⟩
theorem ft_len {e : List Tm} {names : List Bs} (hg : yek nmW names = true) (hv : ydc e names.length = true) (al : Bool) : (formatT al names e).length ≤ 6798 := by
  have := formatT_len nmW_names hg hv al
  omega
theorem fmt_good {e : List Tm} {names : List Bs} (he : e.length ≤ 250) (h1 : names.length ≤ 10) (h2 : ∀ w ∈ names, w.length ≤ 40) (hg : yek nmW names = true) (hv : ydc e names.length = true) : Con Tryz.prog 15 [ybf e, ybl names] (formatA (formatT false names e, 0)) := by
  have := format_con e names (by omega) (by omega) (fun w hw => by have := h2 w hw; omega)
  rwa [formatX_good hg hv] at this
theorem parse_good {e : List Tm} {names : List Bs} (h1 : names.length ≤ 10) (h2 : ∀ w ∈ names, w.length ≤ 40) (hg : yek nmW names = true) (hv : ydc e names.length = true) (al : Bool) (n : Nat) (hn : n ≤ 100) : Con Tryz.prog 11 [strA (ba (brkN n (formatT al names e))), ybl names] (parseA (e, 0, 0)) := by
  have hl := ft_len hg hv al
  have := parse_con (ba (brkN n (formatT al names e))) names (by rw [ybd, brkN_len]; omega) (by omega) (fun w hw => by have := h2 w hw; omega)
  rwa [parseX_format nmW_names hg hv al n hn] at this
theorem exprReadsBack_con (e : List Tm) (names : List Bs) : Con Tryz.prog 5 [ybf e, ybl names] (boolA true) := by
  refine ycq Tryz.func5 rfl rfl Tryz.ntmps5 Tryz.results5 rfl rfl ?_
  (repeat (first | refine zI ?_ | refine zL ?_ | refine zC ?_ | refine yag ?_ | refine yae ?_ | refine zR ?_ | refine zD ?_ | refine zK ?_ | refine zB ?_ | refine zA ?_ | refine zS ?_ | refine zU ?_ | refine zV ?_ | refine zF ?_ | with_reducible refine yab ?_ | with_reducible refine yad ?_ | refine yaa ?_ | refine yac ?_ | refine yaf ?_ | refine zT ?_ | refine zE ?_ | refine zX ?_ | refine yao rfl rfl (fair06_con e names) rfl rfl ?_))
  refine yap rfl (fun h1 => ?_) (fun h1 => ?_)
  · (repeat (first | refine zI ?_ | refine zL ?_ | refine zC ?_ | refine yag ?_ | refine yae ?_ | refine zR ?_ | refine zD ?_ | refine zK ?_ | refine zB ?_ | refine zA ?_ | refine zS ?_ | refine zU ?_ | refine zV ?_ | refine zF ?_ | with_reducible refine yab ?_ | with_reducible refine yad ?_ | refine yaa ?_ | refine yac ?_ | refine yaf ?_ | refine zT ?_ | refine zE ?_ | refine zX ?_ | refine yao rfl rfl ydp rfl rfl ?_))
    refine yas ?_; refine ⟨_, rfl, ?_⟩
    exact ybz rfl
  obtain ⟨he, ⟨l1, l2⟩, hg, hv⟩ := fairE_spec (by simpa using h1)
  have hf := fmt_good he l1 l2 hg hv
  have hp : Con Tryz.prog 11 [strA (ba (formatT false names e)), ybl names] (parseA (e, 0, 0)) := parse_good l1 l2 hg hv false 0 (by omega)
  (repeat (first | refine zI ?_ | refine zL ?_ | refine zC ?_ | refine yag ?_ | refine yae ?_ | refine zR ?_ | refine zD ?_ | refine zK ?_ | refine zB ?_ | refine zA ?_ | refine zS ?_ | refine zU ?_ | refine zV ?_ | refine zF ?_ | with_reducible refine yab ?_ | with_reducible refine yad ?_ | refine yaa ?_ | refine yac ?_ | refine yaf ?_ | refine zT ?_ | refine zE ?_ | refine zX ?_ | refine yao rfl rfl hf rfl rfl ?_ | refine yao rfl rfl hp rfl rfl ?_ | refine yao rfl rfl ydp rfl rfl ?_ | refine yao rfl rfl (same_con _ _ (by show e.length ≤ 1000000; omega)) rfl rfl ?_))
  refine yas ?_; refine ⟨_, rfl, ?_⟩
  exact ybz (by simp)
theorem exprIsStable_con (s : ByteArray) (names : List Bs) : Con Tryz.prog 8 [strA s, ybl names] (boolA true) := by
  refine ycq Tryz.func8 rfl rfl Tryz.ntmps8 Tryz.results8 rfl rfl ?_
  (repeat (first | refine zI ?_ | refine zL ?_ | refine zC ?_ | refine yag ?_ | refine yae ?_ | refine zR ?_ | refine zD ?_ | refine zK ?_ | refine zB ?_ | refine zA ?_ | refine zS ?_ | refine zU ?_ | refine zV ?_ | refine zF ?_ | with_reducible refine yab ?_ | with_reducible refine yad ?_ | refine yaa ?_ | refine yac ?_ | refine yaf ?_ | refine zT ?_ | refine zE ?_ | refine zX ?_))
  refine ydw 21 rfl (fun h1 => ?_) (fun h1 => ?_)
  · (repeat (first | refine zI ?_ | refine zL ?_ | refine zC ?_ | refine yag ?_ | refine yae ?_ | refine zR ?_ | refine zD ?_ | refine zK ?_ | refine zB ?_ | refine zA ?_ | refine zS ?_ | refine zU ?_ | refine zV ?_ | refine zF ?_ | with_reducible refine yab ?_ | with_reducible refine yad ?_ | refine yaa ?_ | refine yac ?_ | refine yaf ?_ | refine zT ?_ | refine zE ?_ | refine zX ?_ | refine yao rfl rfl ydp rfl rfl ?_))
    refine yas ?_; refine ⟨_, rfl, ?_⟩
    exact ybz rfl
  have h1 : s.size ≤ 1000 := by simp at h1; omega
  (repeat (first | refine zI ?_ | refine zL ?_ | refine zC ?_ | refine yag ?_ | refine yae ?_ | refine zR ?_ | refine zD ?_ | refine zK ?_ | refine zB ?_ | refine zA ?_ | refine zS ?_ | refine zU ?_ | refine zV ?_ | refine zF ?_ | with_reducible refine yab ?_ | with_reducible refine yad ?_ | refine yaa ?_ | refine yac ?_ | refine yaf ?_ | refine zT ?_ | refine zE ?_ | refine zX ?_ | refine yao rfl rfl (light06_con names) rfl rfl ?_))
  refine yap rfl (fun h2 => ?_) (fun h2 => ?_)
  · (repeat (first | refine zI ?_ | refine zL ?_ | refine zC ?_ | refine yag ?_ | refine yae ?_ | refine zR ?_ | refine zD ?_ | refine zK ?_ | refine zB ?_ | refine zA ?_ | refine zS ?_ | refine zU ?_ | refine zV ?_ | refine zF ?_ | with_reducible refine yab ?_ | with_reducible refine yad ?_ | refine yaa ?_ | refine yac ?_ | refine yaf ?_ | refine zT ?_ | refine zE ?_ | refine zX ?_ | refine yao rfl rfl ydp rfl rfl ?_))
    refine yas ?_; refine ⟨_, rfl, ?_⟩
    exact ybz rfl
  have h2 : lightN names = true := by simpa using h2
  obtain ⟨l1, l2⟩ := lightN_spec h2
  have hp := parse_con s names (by omega) (by omega) (fun w hw => by have := l2 w hw; omega)
  have hr := rparse_con s names (by omega) (by omega) (fun w hw => by have := l2 w hw; omega)
  (repeat (first | refine zI ?_ | refine zL ?_ | refine zC ?_ | refine yag ?_ | refine yae ?_ | refine zR ?_ | refine zD ?_ | refine zK ?_ | refine zB ?_ | refine zA ?_ | refine zS ?_ | refine zU ?_ | refine zV ?_ | refine zF ?_ | with_reducible refine yab ?_ | with_reducible refine yad ?_ | refine yaa ?_ | refine yac ?_ | refine yaf ?_ | refine zT ?_ | refine zE ?_ | refine zX ?_ | refine yao rfl rfl hp rfl rfl ?_))
  refine yap rfl (fun h3 => ?_) (fun h3 => ?_)
  · have h3 : (yfq nmW names s).2.2 ≠ 0 := by simpa using h3
    have hnil := parseX_nil h3
    (repeat (first | refine zI ?_ | refine zL ?_ | refine zC ?_ | refine yag ?_ | refine yae ?_ | refine zR ?_ | refine zD ?_ | refine zK ?_ | refine zB ?_ | refine zA ?_ | refine zS ?_ | refine zU ?_ | refine zV ?_ | refine zF ?_ | with_reducible refine yab ?_ | with_reducible refine yad ?_ | refine yaa ?_ | refine yac ?_ | refine yaf ?_ | refine zT ?_ | refine zE ?_ | refine zX ?_ | refine yao rfl rfl hr rfl rfl ?_ | refine yao rfl rfl ydp rfl rfl ?_))
    refine L_true 49 rfl (by simp) ?_
    (repeat (first | refine zI ?_ | refine zL ?_ | refine zC ?_ | refine yag ?_ | refine yae ?_ | refine zR ?_ | refine zD ?_ | refine zK ?_ | refine zB ?_ | refine zA ?_ | refine zS ?_ | refine zU ?_ | refine zV ?_ | refine zF ?_ | with_reducible refine yab ?_ | with_reducible refine yad ?_ | refine yaa ?_ | refine yac ?_ | refine yaf ?_ | refine zT ?_ | refine zE ?_ | refine zX ?_))
    refine yas ?_; refine ⟨_, rfl, ?_⟩
    exact ybz (by simp [hnil])
  have h3 : (yfq nmW names s).2.2 = 0 := by simpa using h3
  obtain ⟨hg, hv⟩ := parseX_valid h3
  have he := parseX_len (nm := nmW) (names := names) (s := s)
  have hf := fmt_good (by omega) l1 l2 hg hv
  have hq := parse_good l1 l2 hg hv false 0 (by omega)
  simp only [brkN] at hq
  (repeat (first | refine zI ?_ | refine zL ?_ | refine zC ?_ | refine yag ?_ | refine yae ?_ | refine zR ?_ | refine zD ?_ | refine zK ?_ | refine zB ?_ | refine zA ?_ | refine zS ?_ | refine zU ?_ | refine zV ?_ | refine zF ?_ | with_reducible refine yab ?_ | with_reducible refine yad ?_ | refine yaa ?_ | refine yac ?_ | refine yaf ?_ | refine zT ?_ | refine zE ?_ | refine zX ?_ | refine yao rfl rfl hf rfl rfl ?_ | refine yao rfl rfl hq rfl rfl ?_ | refine yao rfl rfl ydp rfl rfl ?_))
  refine L_true 78 rfl (by simp) ?_
  (repeat (first | refine zI ?_ | refine zL ?_ | refine zC ?_ | refine yag ?_ | refine yae ?_ | refine zR ?_ | refine zD ?_ | refine zK ?_ | refine zB ?_ | refine zA ?_ | refine zS ?_ | refine zU ?_ | refine zV ?_ | refine zF ?_ | with_reducible refine yab ?_ | with_reducible refine yad ?_ | refine yaa ?_ | refine yac ?_ | refine yaf ?_ | refine zT ?_ | refine zE ?_ | refine zX ?_))
  refine L_true 82 rfl (by simp) ?_
  (repeat (first | refine zI ?_ | refine zL ?_ | refine zC ?_ | refine yag ?_ | refine yae ?_ | refine zR ?_ | refine zD ?_ | refine zK ?_ | refine zB ?_ | refine zA ?_ | refine zS ?_ | refine zU ?_ | refine zV ?_ | refine zF ?_ | with_reducible refine yab ?_ | with_reducible refine yad ?_ | refine yaa ?_ | refine yac ?_ | refine yaf ?_ | refine zT ?_ | refine zE ?_ | refine zX ?_))
  refine L_true 86 rfl (by simp) ?_
  (repeat (first | refine zI ?_ | refine zL ?_ | refine zC ?_ | refine yag ?_ | refine yae ?_ | refine zR ?_ | refine zD ?_ | refine zK ?_ | refine zB ?_ | refine zA ?_ | refine zS ?_ | refine zU ?_ | refine zV ?_ | refine zF ?_ | with_reducible refine yab ?_ | with_reducible refine yad ?_ | refine yaa ?_ | refine yac ?_ | refine yaf ?_ | refine zT ?_ | refine zE ?_ | refine zX ?_ | refine yao rfl rfl (same_con _ _ (by omega)) rfl rfl ?_))
  refine L_true 91 rfl (by simp) ?_
  (repeat (first | refine zI ?_ | refine zL ?_ | refine zC ?_ | refine yag ?_ | refine yae ?_ | refine zR ?_ | refine zD ?_ | refine zK ?_ | refine zB ?_ | refine zA ?_ | refine zS ?_ | refine zU ?_ | refine zV ?_ | refine zF ?_ | with_reducible refine yab ?_ | with_reducible refine yad ?_ | refine yaa ?_ | refine yac ?_ | refine yaf ?_ | refine zT ?_ | refine zE ?_ | refine zX ?_))
  refine yas ?_; refine ⟨_, rfl, ?_⟩
  exact ybz (by simp)
theorem ba_appE (a b : Bs) : ba a ++ ba b = ba (a ++ b) := by
  rw [← ba_bl (ba a ++ ba b)]
  congr 1
theorem wf_u8 {n : Int} (h : (Lit.int .u8 n).wf = true) : 0 ≤ n ∧ n ≤ 255 := by
  simp only [Lit.wf, Bool.and_eq_true, decide_eq_true_eq] at h
  have e1 : IntKind.u8.min = 0 := by decide
  have e2 : IntKind.u8.max = 255 := by decide
  omega
theorem exprIgnoresBrackets_con (e : List Tm) (names : List Bs) (p : Int) (hp0 : 0 ≤ p ∧ p ≤ 255) : Con Tryz.prog 6 [ybf e, ybl names, .v (.int .u8 p)] (boolA true) := by
  refine ycq Tryz.func6 rfl rfl Tryz.ntmps6 Tryz.results6 rfl rfl ?_
  (repeat (first | refine zI ?_ | refine zL ?_ | refine zC ?_ | refine yag ?_ | refine yae ?_ | refine zR ?_ | refine zD ?_ | refine zK ?_ | refine zB ?_ | refine zA ?_ | refine zS ?_ | refine zU ?_ | refine zV ?_ | refine zF ?_ | with_reducible refine yab ?_ | with_reducible refine yad ?_ | refine yaa ?_ | refine yac ?_ | refine yaf ?_ | refine zT ?_ | refine zE ?_ | refine zX ?_ | refine yao rfl rfl (fair06_con e names) rfl rfl ?_))
  refine yap rfl (fun h1 => ?_) (fun h1 => ?_)
  · (repeat (first | refine zI ?_ | refine zL ?_ | refine zC ?_ | refine yag ?_ | refine yae ?_ | refine zR ?_ | refine zD ?_ | refine zK ?_ | refine zB ?_ | refine zA ?_ | refine zS ?_ | refine zU ?_ | refine zV ?_ | refine zF ?_ | with_reducible refine yab ?_ | with_reducible refine yad ?_ | refine yaa ?_ | refine yac ?_ | refine yaf ?_ | refine zT ?_ | refine zE ?_ | refine zX ?_ | refine yao rfl rfl ydp rfl rfl ?_))
    refine yas ?_; refine ⟨_, rfl, ?_⟩
    exact ybz rfl
  obtain ⟨he, ⟨l1, l2⟩, hg, hv⟩ := fairE_spec (by simpa using h1)
  have hf := fmt_good he l1 l2 hg hv
  have hl := ft_len hg hv false
  have hpm : p.tmod 20 = ((p.toNat % 20 : Nat) : Int) := by
    obtain ⟨n, rfl⟩ := Int.eq_ofNat_of_zero_le hp0.1
    rfl
  (repeat (first | refine zI ?_ | refine zL ?_ | refine zC ?_ | refine yag ?_ | refine yae ?_ | refine zR ?_ | refine zD ?_ | refine zK ?_ | refine zB ?_ | refine zA ?_ | refine zS ?_ | refine zU ?_ | refine zV ?_ | refine zF ?_ | with_reducible refine yab ?_ | with_reducible refine yad ?_ | refine yaa ?_ | refine yac ?_ | refine yaf ?_ | refine zT ?_ | refine zE ?_ | refine zX ?_ | refine yao rfl rfl hf rfl rfl ?_))
  refine A_inv (α := Nat) (fun k => [(9, i64 k), (8, i64 0), (7, strA (ba (brkN k (formatT false names e)))), (2, .v (.int .u8 p)), (1, ybl names), (0, ybf e)]) (fun k => []) (fun k => 20 - k) (fun k => k ≤ p.toNat % 20) 0 (by omega) (by (repeat (first | exact ycg | refine yby rfl ?_))) yam ?_
  intro k hk
  (repeat (first | refine zI ?_ | refine zL ?_ | refine zC ?_ | refine yag ?_ | refine yae ?_ | refine zR ?_ | refine zD ?_ | refine zK ?_ | refine zB ?_ | refine zA ?_ | refine zS ?_ | refine zU ?_ | refine zV ?_ | refine zF ?_ | with_reducible refine yab ?_ | with_reducible refine yad ?_ | refine yaa ?_ | refine yac ?_ | refine yaf ?_ | refine zT ?_ | refine zE ?_ | refine zX ?_))
  refine yap rfl (fun h2 => ?_) (fun h2 => ?_)
  · have h2 : k < p.toNat % 20 := by have h3 := of_decide_eq_true h2; rw [hpm] at h3; omega
    (repeat (first | refine zI ?_ | refine zL ?_ | refine zC ?_ | refine yag ?_ | refine yae ?_ | refine zR ?_ | refine zD ?_ | refine zK ?_ | refine zB ?_ | refine zA ?_ | refine zS ?_ | refine zU ?_ | refine zV ?_ | refine zF ?_ | with_reducible refine yab ?_ | with_reducible refine yad ?_ | refine yaa ?_ | refine yac ?_ | refine yaf ?_ | refine zT ?_ | refine zE ?_ | refine zX ?_))
    refine yey (a := ba [40, 32]) rfl rfl (by rw [ybd, ybd, brkN_len]; simp; omega) rfl rfl ?_
    rw [ba_appE]
    (repeat (first | refine zI ?_ | refine zL ?_ | refine zC ?_ | refine yag ?_ | refine yae ?_ | refine zR ?_ | refine zD ?_ | refine zK ?_ | refine zB ?_ | refine zA ?_ | refine zS ?_ | refine zU ?_ | refine zV ?_ | refine zF ?_ | with_reducible refine yab ?_ | with_reducible refine yad ?_ | refine yaa ?_ | refine yac ?_ | refine yaf ?_ | refine zT ?_ | refine zE ?_ | refine zX ?_))
    refine yey (b := ba [41, 35, 32, 120, 10]) rfl rfl (by rw [ybd, ybd, List.length_append, brkN_len]; simp; omega) rfl rfl ?_
    rw [ba_appE]
    (repeat (first | refine zI ?_ | refine zL ?_ | refine zC ?_ | refine yag ?_ | refine yae ?_ | refine zR ?_ | refine zD ?_ | refine zK ?_ | refine zB ?_ | refine zA ?_ | refine zS ?_ | refine zU ?_ | refine zV ?_ | refine zF ?_ | with_reducible refine yab ?_ | with_reducible refine yad ?_ | refine yaa ?_ | refine yac ?_ | refine yaf ?_ | refine zT ?_ | refine zE ?_ | refine zX ?_))
    exact rnd (k + 1) (by omega) (by omega) (by (repeat (first | exact ycg | refine yby rfl ?_))) yam
  have h2 : p.toNat % 20 ≤ k := by have h3 := of_decide_eq_false h2; rw [hpm] at h3; omega
  have hp := parse_good l1 l2 hg hv false k (by omega)
  (repeat (first | refine zI ?_ | refine zL ?_ | refine zC ?_ | refine yag ?_ | refine yae ?_ | refine zR ?_ | refine zD ?_ | refine zK ?_ | refine zB ?_ | refine zA ?_ | refine zS ?_ | refine zU ?_ | refine zV ?_ | refine zF ?_ | with_reducible refine yab ?_ | with_reducible refine yad ?_ | refine yaa ?_ | refine yac ?_ | refine yaf ?_ | refine zT ?_ | refine zE ?_ | refine zX ?_ | refine yao rfl rfl hp rfl rfl ?_ | refine yao rfl rfl ydp rfl rfl ?_))
  refine L_true 46 rfl (by simp) ?_
  (repeat (first | refine zI ?_ | refine zL ?_ | refine zC ?_ | refine yag ?_ | refine yae ?_ | refine zR ?_ | refine zD ?_ | refine zK ?_ | refine zB ?_ | refine zA ?_ | refine zS ?_ | refine zU ?_ | refine zV ?_ | refine zF ?_ | with_reducible refine yab ?_ | with_reducible refine yad ?_ | refine yaa ?_ | refine yac ?_ | refine yaf ?_ | refine zT ?_ | refine zE ?_ | refine zX ?_))
  refine L_true 50 rfl (by simp) ?_
  (repeat (first | refine zI ?_ | refine zL ?_ | refine zC ?_ | refine yag ?_ | refine yae ?_ | refine zR ?_ | refine zD ?_ | refine zK ?_ | refine zB ?_ | refine zA ?_ | refine zS ?_ | refine zU ?_ | refine zV ?_ | refine zF ?_ | with_reducible refine yab ?_ | with_reducible refine yad ?_ | refine yaa ?_ | refine yac ?_ | refine yaf ?_ | refine zT ?_ | refine zE ?_ | refine zX ?_ | refine yao rfl rfl (same_con _ _ (by show e.length ≤ 1000000; omega)) rfl rfl ?_))
  refine yas ?_; refine ⟨_, rfl, ?_⟩
  exact ybz (by simp)
section
variable {H : Type} {enc : TypeId × Value → H} {w : World} {v : Value} {base : Nat} {d : DataW H} {ps : List MemPlace}
def NamesOk (w : World) (v : Value) (l : List Bs) : Prop := Seq (fun cs (x : Bs) => cs = [.string (ba x)]) 1 w v l
theorem open_names (hv : Value.okWide Tryz.prog w .any base 22 v) (h : DataW.Trod enc Tryz.prog w 0 (fun _ => true) true 22 v d ps) : ∃ l, NamesOk w v l := by
  refine open_seq_arg (R := fun cs (x : Bs) => cs = [.string (ba x)]) Tryz.underlying22 (by kernel_rfl) (Nat.succ_pos 0) (fun cs h => ?_) hv h
  obtain ⟨s, hs, _⟩ := rd_string Tryz.underlying9 h
  exact ⟨bl s, by rw [hs, ba_bl]⟩
theorem names_rel {lv : Live} {l : List Bs} (h : NamesOk w v l) : Rel (okW w) w lv (ybl l) v :=
  rel_of_seq h (fun _ => rfl) (fun x c hc => by simp at hc; subst hc; rfl) fun x _ cs hc => by
    subst hc
    exact ydz (.v _) relAll_nil
theorem terms_relE {lv : Live} {l : List Tm} (h : Terms w v l) : Rel (okW w) w lv (ybf l) v :=
  rel_plain (g := fun t : Tm => [.int .i64 t.1, .int .i64 t.2]) (fun _ => rfl) (fun x u hu => by simp at hu; rcases hu with rfl | rfl <;> rfl) h
end
theorem walk_ExprParses (s : ByteArray) (v1 : Value) (z1 : List Bs) (w : World) (hs : s.size ≤ maxLen) (h1 : NamesOk w v1 z1) (hG : Glob w) :
    Calls Tryz.prog 3 #[.string s, v1] w fun e w' => e = .returned (.bool true) ∧ Below w.heap.size w w' :=
  calls_of_con (exprParses_con s z1) hG (okW_lt w) (ydz (.v _) (ydz (names_rel h1) relAll_nil))
theorem walk_ExprIsStable (s : ByteArray) (v1 : Value) (z1 : List Bs) (w : World) (hs : s.size ≤ maxLen) (h1 : NamesOk w v1 z1) (hG : Glob w) :
    Calls Tryz.prog 8 #[.string s, v1] w fun e w' => e = .returned (.bool true) ∧ Below w.heap.size w w' :=
  calls_of_con (exprIsStable_con s z1) hG (okW_lt w) (ydz (.v _) (ydz (names_rel h1) relAll_nil))
theorem walk_ExprReadsBack (v0 : Value) (z0 : List Tm) (v1 : Value) (z1 : List Bs) (w : World) (h0 : Terms w v0 z0 ∧ ∀ t ∈ z0, TermIn t) (h1 : NamesOk w v1 z1) (hG : Glob w) :
    Calls Tryz.prog 5 #[v0, v1] w fun e w' => e = .returned (.bool true) ∧ Below w.heap.size w w' :=
  calls_of_con (exprReadsBack_con z0 z1) hG (okW_lt w) (ydz (terms_relE h0.1) (ydz (names_rel h1) relAll_nil))
theorem walk_ExprIgnoresBrackets (v0 : Value) (z0 : List Tm) (v1 : Value) (z1 : List Bs) (p : Int) (w : World) (h0 : Terms w v0 z0 ∧ ∀ t ∈ z0, TermIn t) (h1 : NamesOk w v1 z1) (hp : (Lit.int .u8 p).wf = true) (hG : Glob w) :
    Calls Tryz.prog 6 #[v0, v1, .int .u8 p] w fun e w' => e = .returned (.bool true) ∧ Below w.heap.size w w' :=
  calls_of_con (exprIgnoresBrackets_con z0 z1 p (wf_u8 hp)) hG (okW_lt w) (ydz (terms_relE h0.1) (ydz (names_rel h1) (ydz (.v _) relAll_nil)))
end Go.Proofs.YtcpgpiabeimefaaGreatDoor
set_option linter.unusedVariables false
set_option maxRecDepth 100000
namespace Go.Proofs.YtcpgpiabeimefaaGreatDoor
open Go.RowKit
def lits1 (l : List (DataW Unit)) : List Value := l.flatMap fun | .lit (.int k z) => [.int k z] | _ => []
def lits2 : DataW Unit → List Value
  | .agg l => l.flatMap fun | .lit (.int k z) => [.int k z] | .agg m => lits1 m | _ => []
  | _ => []
def layIn (vs : List Value) : Obj → Obj
  | .cells _ t frozen => .cells vs.toArray t frozen
  | o => o
noncomputable def yel (os : Os) : World :=
  { World.holding Tryz.prog os ⟨#[], #[], []⟩ with heap := (((World.holding Tryz.prog os ⟨#[], #[], []⟩).heap.modify 2 (layIn (lits2 Rows.laid_math_bits_deBruijn32tab))).modify 3 (layIn (lits2 Rows.laid_math_bits_deBruijn64tab))).modify 1 (layIn (lits2 Rows.laid_internal_strconv_uint64pow10)) }
theorem glob_of {laid : List (String × DataW Unit)} {W : World} (hl : (laid.filter fun x => x.1 == "internal/strconv.uint64pow10") = [("internal/strconv.uint64pow10", Rows.laid_internal_strconv_uint64pow10)]) (hs : W.ShapedOpen Tryz.prog) (h : laidMetH Tryz.prog laid W) : Glob W := by
  have h2 := laidMetH.filter (fun x => x.1 == "internal/strconv.uint64pow10") h
  rw [hl] at h2
  have h3 : laidMet Tryz.prog [("internal/strconv.uint64pow10", Lib.tabData .u64 Lib.pow10Tab)] W := h2
  exact Lib.tabIs_of_head (t := 119) (e := 113) (n := 20) gPow10 (by kernel_rfl) Tryz.underlying119 Tryz.underlying113 (by kernel_rfl) (by kernel_rfl) h3
end Go.Proofs.YtcpgpiabeimefaaGreatDoor
