/- Part 17 of the texts under ExprFormats,ExprBracketsEverything: joined, with what it needs alone. -/
import Derived.Test.YtcpgpiabeimefaaGreatDoorRows
import Derived.Lib.LaidTab
import Derived.Deep.DeepHandedRow
import Derived.LaidSub
import Derived.Test.YtcpgpiabeimefaaGreatDoorR1
import Derived.Test.YtcpgpiabeimefaaGreatDoorR13
import Derived.Test.YtcpgpiabeimefaaGreatDoorR14
import Derived.Test.YtcpgpiabeimefaaGreatDoorR15
import Derived.Test.YtcpgpiabeimefaaGreatDoorR16
set_option linter.unusedVariables false
set_option maxRecDepth 100000
set_option maxHeartbeats 4000000
namespace Go.Proofs.YtcpgpiabeimefaaGreatDoor
open Go.RowKit
section
variable {s : ByteArray} {names : List Bs} {ts : List Tok} {a : Nat} {err pl : Int}
def RfRes (f : FuncId) (args : List AV) (s : ByteArray) (names : List Bs) (ts : List Tok) (a : Nat) (pl : Int) (res : Res) : Prop := match res with
  | .ok x rest => yia Tryz.prog f (.lp 1001 0 :: args) (yao (rfH s names ts a 0 pl)) (ybc x) (yao (rfH s names ts (ts.length - rest.length) 0 pl))
  | .bad c rest => ∃ (x : List Tm) (a' : Nat), a ≤ a' ∧ a' ≤ ts.length ∧ x.length + (ts.length - a') ≤ ts.length - a ∧ yia Tryz.prog f (.lp 1001 0 :: args) (yao (rfH s names ts a 0 pl)) (ybc x) (yao (rfH s names ts a' c (ygs s (ts.drop (ts.length - rest.length)))))
structure IHr (f : Nat) (s : ByteArray) (names : List Bs) (ts : List Tok) : Prop where
  choice : ∀ (a : Nat) (pl : Int) (res : Res), a ≤ ts.length → PP nmW names f .choice ((ts.drop a).map (pwT s)) = some res → RfRes 29 [] s names ts a pl res
  bin : ∀ (l : Nat), 1 ≤ l → l ≤ 6 → ∀ (a : Nat) (pl : Int) (res : Res), a ≤ ts.length → PP nmW names f (.bin l) ((ts.drop a).map (pwT s)) = some res → RfRes 57 [i64 (l + 1 : Nat)] s names ts a pl res
  unary : ∀ (a : Nat) (pl : Int) (res : Res), a ≤ ts.length → PP nmW names f .unary ((ts.drop a).map (pwT s)) = some res → RfRes 98 [] s names ts a pl res
  prim : ∀ (a : Nat) (pl : Int) (res : Res), a ≤ ts.length → PP nmW names f .prim ((ts.drop a).map (pwT s)) = some res → RfRes 111 [] s names ts a pl res
end
end Go.Proofs.YtcpgpiabeimefaaGreatDoor
set_option linter.unusedVariables false
set_option maxRecDepth 100000
set_option maxHeartbeats 4000000
namespace Go.Proofs.YtcpgpiabeimefaaGreatDoor
open Go.RowKit
theorem recovered_nil : Con Tryz.prog 44 [.v .nilIface] (.tup [.agg [i64 0, i64 0], yga false]) := by
  refine con_ofT tok Tryz.func44 rfl rfl Tryz.ntmps44 Tryz.results44 rfl rfl ?_
  (repeat (first | refine zI ?_ | refine zL ?_ | refine zC ?_ | refine yaf ?_ | refine yae ?_ | refine zR ?_ | refine zD ?_ | refine zK ?_ | refine zB ?_ | refine zA ?_ | refine zS ?_ | refine zU ?_ | refine zV ?_ | refine zF ?_ | with_reducible refine yab ?_ | with_reducible refine yad ?_ | refine yaa ?_ | refine yac ?_ | refine yag ?_ | refine zT ?_ | refine zE ?_ | refine zX ?_ | refine ycc (yield_eqNilYes (by kernel_rfl) rfl rfl) rfl rfl ?_))
  refine yau ?_; refine ⟨_, rfl, ?_⟩
  exact Frz.pure
theorem recovered_fail (p e : Int) : Con Tryz.prog 44 [.v (failV p e)] (.tup [.agg [i64 p, i64 e], yga true]) := by
  refine con_ofT tok Tryz.func44 rfl rfl Tryz.ntmps44 Tryz.results44 rfl rfl ?_
  (repeat (first | refine zI ?_ | refine zL ?_ | refine zC ?_ | refine yaf ?_ | refine yae ?_ | refine zR ?_ | refine zD ?_ | refine zK ?_ | refine zB ?_ | refine zA ?_ | refine zS ?_ | refine zU ?_ | refine zV ?_ | refine zF ?_ | with_reducible refine yab ?_ | with_reducible refine yad ?_ | refine yaa ?_ | refine yac ?_ | refine yag ?_ | refine zT ?_ | refine zE ?_ | refine zX ?_ | refine ycc (yield_eqNilNo (by kernel_rfl) rfl rfl) rfl rfl ?_ | refine ycc (yield_assertYes (y := .agg [i64 p, i64 e]) Tryz.underlying72 rfl rfl rfl) rfl rfl ?_))
  refine yau ?_; refine ⟨_, rfl, ?_⟩
  exact Frz.pure
def catH (p e : Int) : List (Nat × Option LObj) := [(1002, some (.cells [i64 p])), (1003, some (.cells [i64 e]))]
theorem cat_cl {p e p' e' : Int} : ∀ id o, yao (catH p' e') id = some o → isC o = true → 14 ≤ id ∧ ∃ o', yao (catH p e) id = some o' ∧ isC o' = true := by
  intro id o ho hc
  simp only [catH, yao] at ho ⊢
  cases h1 : Nat.beq id 1002 with
  | true => have := Nat.eq_of_beq_eq_true h1; exact ⟨by omega, _, rfl, rfl⟩
  | false =>
    simp only [h1] at ho
    cases h2 : Nat.beq id 1003 with
    | true => have := Nat.eq_of_beq_eq_true h2; exact ⟨by omega, _, rfl, rfl⟩
    | false => simp only [h2] at ho; cases ho
theorem closure_idle (p e : Int) : ylj (KD Tryz.prog 43 .returning .returning) [.lp 1002 0, .lp 1003 0] (yao (catH p e)) (.tup []) (yao (catH p e)) := by
  refine conKD_recover (lf := lfT) tok Tryz.func43 rfl Tryz.ntmps43 Tryz.results43 rfl cat_cl rfl rfl rfl (by decide) rfl .idle ?_
  show Lex _ _ _ _ _ _ (S _ _)
  (repeat (first | refine zI ?_ | refine zL ?_ | refine zC ?_ | refine yaf ?_ | refine yae ?_ | refine zR ?_ | refine zD ?_ | refine zK ?_ | refine zB ?_ | refine zA ?_ | refine zS ?_ | refine zU ?_ | refine zV ?_ | refine zF ?_ | with_reducible refine yab ?_ | with_reducible refine yad ?_ | refine yaa ?_ | refine yac ?_ | refine yag ?_ | refine zT ?_ | refine zE ?_ | refine zX ?_ | refine yal rfl rfl recovered_nil rfl rfl ?_))
  exact ⟨_, rfl, ybk _, yba (yak rfl (yak rfl yar))⟩
theorem closure_caught (p e p0 e0 : Int) : ylj (KD Tryz.prog 43 (.panicking (yis p e)) (.panicking [{ v := failV p e, recovered := true }])) [.lp 1002 0, .lp 1003 0] (yao (catH p0 e0)) (.tup []) (yao (catH p e)) := by
  refine conKD_recover (lf := lfT) tok Tryz.func43 rfl Tryz.ntmps43 Tryz.results43 rfl cat_cl rfl rfl rfl (by decide) rfl (.caught (failV p e) []) ?_
  show Lex _ _ _ _ _ _ (S _ _)
  (repeat (first | refine zI ?_ | refine zL ?_ | refine zC ?_ | refine yaf ?_ | refine yae ?_ | refine zR ?_ | refine zK ?_ | refine zB ?_ | refine zA ?_ | refine zS ?_ | refine zU ?_ | refine zV ?_ | refine zF ?_ | with_reducible refine yab ?_ | with_reducible refine yad ?_ | refine yaa ?_ | refine yac ?_ | refine yag ?_ | refine zT ?_ | refine zE ?_ | refine zX ?_ | refine yal rfl rfl (recovered_fail p e) rfl rfl ?_))
  refine A_region_any (lf := lf0) mixed rfl ?_
  refine any_pre [0, 1] 4 (yef rfl (yef rfl numOk_nil)) rfl (by kernel_rfl) ?_
  (repeat (first | refine zI ?_ | refine zL ?_ | refine zC ?_ | refine zK ?_ | refine zB ?_ | refine zA ?_ | refine zS ?_ | refine zU ?_ | refine zV ?_ | refine zF ?_ | refine zX ?_ | refine yaf ?_))
  refine any_fork [2, 4] 3 rfl (by kernel_rfl) (by simp) ⟨⟨_, rfl, ?_⟩, ⟨_, rfl, ?_⟩, trivial⟩
  · (repeat (first | refine zI ?_ | refine zL ?_ | refine zC ?_ | refine zK ?_ | refine zB ?_ | refine zA ?_ | refine zS ?_ | refine zU ?_ | refine zV ?_ | refine zF ?_ | refine zX ?_ | refine yaf ?_))
    refine any_fork [3, 4] 2 rfl (by kernel_rfl) (by simp) ⟨⟨_, rfl, ?_⟩, ⟨_, rfl, ?_⟩, trivial⟩
    · (repeat (first | refine zI ?_ | refine zL ?_ | refine zC ?_ | refine zK ?_ | refine zB ?_ | refine zA ?_ | refine zS ?_ | refine zU ?_ | refine zV ?_ | refine zF ?_ | refine zX ?_ | refine yaf ?_))
      refine any_rest [4, 5] (yef rfl (yef rfl numOk_nil)) rfl (by kernel_rfl) ?_
      (repeat (first | refine zI ?_ | refine zL ?_ | refine zC ?_ | refine zK ?_ | refine zB ?_ | refine zA ?_ | refine zS ?_ | refine zU ?_ | refine zV ?_ | refine zF ?_ | refine zX ?_ | refine yaf ?_))
      exact ⟨_, rfl, ybk _, yba (yak rfl (yak rfl yar))⟩
    · (repeat (first | refine zI ?_ | refine zL ?_ | refine zC ?_ | refine zK ?_ | refine zB ?_ | refine zA ?_ | refine zS ?_ | refine zU ?_ | refine zV ?_ | refine zF ?_ | refine zX ?_ | refine yaf ?_))
      refine any_rest [3, 5] (yef rfl (yef rfl numOk_nil)) rfl (by kernel_rfl) ?_
      (repeat (first | refine zI ?_ | refine zL ?_ | refine zC ?_ | refine zK ?_ | refine zB ?_ | refine zA ?_ | refine zS ?_ | refine zU ?_ | refine zV ?_ | refine zF ?_ | refine zX ?_ | refine yaf ?_))
      exact ⟨_, rfl, ybk _, yba (yak rfl (yak rfl yar))⟩
  · (repeat (first | refine zI ?_ | refine zL ?_ | refine zC ?_ | refine zK ?_ | refine zB ?_ | refine zA ?_ | refine zS ?_ | refine zU ?_ | refine zV ?_ | refine zF ?_ | refine zX ?_ | refine yaf ?_))
    refine any_rest [2, 3, 5] (yef rfl (yef rfl (yef rfl numOk_nil))) rfl (by kernel_rfl) ?_
    (repeat (first | refine zI ?_ | refine zL ?_ | refine zC ?_ | refine zK ?_ | refine zB ?_ | refine zA ?_ | refine zS ?_ | refine zU ?_ | refine zV ?_ | refine zF ?_ | refine zX ?_ | refine yaf ?_))
    exact ⟨_, rfl, ybk _, yba (yak rfl (yak rfl yar))⟩
section
variable {g : FuncId} {caps : List AV} {hs hs' : List (Nat × Option LObj)}
structure CatMem (g : FuncId) (caps : List AV) (hs hs' : List (Nat × Option LObj)) : Prop where
  keys : ∀ i ∈ yew (hs ++ hs'), 1000 ≤ i
  caps : ∀ i, i < 1000 → ment.mentL i caps = false
  fresh : ∀ i, i < 1000 → ydt i hs = true
  fresh2 : ∀ i, i < 1000 → ydt i hs' = true
  only : ∀ id o, yao hs' id = some o → yjw (yew (hs ++ hs')) o = true
theorem ahead_cat {p e : Int} (h : ∀ i ∈ yew hs, 1000 ≤ i) : Ahead [(3, some (.cells [i64 e])), (2, some (.cells [i64 p]))] hs := by
  refine ⟨fun i hi hm => ?_, fun j ob hj i hi => ?_⟩
  · have := h i hi
    simp [yew] at hm
    omega
  · have : ob = .cells [i64 e] ∨ ob = .cells [i64 p] := by
      simp only [yao] at hj
      split at hj
      · cases hj; exact .inl rfl
      · split at hj
        · cases hj; exact .inr rfl
        · cases hj
    rcases this with rfl | rfl <;> rfl
theorem cat_lt {i : Nat} (h : i ∈ yda [(1002, 2), (1003, 3)]) : i < 1000 := by simp [yda] at h; omega
theorem catch_ok (hc : yia Tryz.prog g caps (yao hs) (.tup []) (yao hs')) (hm : CatMem g caps hs hs') : yia Tryz.prog 21 [.fn g caps] (yao hs) (.tup [i64 0, i64 0]) (yao hs') := by
  refine conM_ofD tok Tryz.func21 rfl rfl Tryz.ntmps21 Tryz.results21 rfl (fun id o ho hi => ⟨?_, hc.2.1 id o ho hi⟩) ?_
  · have := hm.keys id (by simp only [yew, List.map_append, List.mem_append]; exact .inr (ydv (by rw [ho]; rfl)))
    omega
  show AF _ _ _ _ (S _ _)
  have f1 : yea 2 (yfd 0 [AV.fn g caps]) = true := by
    show yea 2 [(0, .fn g caps)] = true
    simp [yea, ment, hm.caps 2 (by omega)]
  have f2 : yea 3 ((2, .lp 2 0) :: yfd 0 [AV.fn g caps]) = true := by
    show yea 3 [(2, .lp 2 0), (0, .fn g caps)] = true
    simp [yea, ment, hm.caps 3 (by omega)]
  refine yej (ydy ?_)
  refine yah (lf := lfT) rfl ?_
  refine zA (h1 := f1) (h2 := hm.fresh 2 (by omega)) ?_
  refine zA (h1 := f2) (h2 := fresh_c rfl rfl (hm.fresh 3 (by omega))) ?_
  refine yaf ?_
  show AF _ _ _ _ (S _ _)
  refine yej ?_
  refine AF_region_defer (lf := lfT) 1 rfl rfl rfl rfl rfl rfl (fun d h => by cases h) ?_
  refine zF ?_
  refine yaf ⟨rfl, _, _, _, ⟨_, Tryz.func43, rfl, rfl⟩, rfl, rfl, fun x hx => ?_, ?_⟩
  · have : ∀ y, ybb ((4, .fn 43 [.lp 2 0, .lp 3 0]) :: (3, .lp 3 0) :: (2, .lp 2 0) :: yfd 0 [AV.fn g caps]) x ≠ some y := fun y hy => by
      simp only [ybb, yfd] at hy
      (repeat' split at hy)
      all_goals first | (rename_i hb; have := Nat.eq_of_beq_eq_true hb; omega) | cases hy
    cases hq : ybb ((4, .fn 43 [.lp 2 0, .lp 3 0]) :: (3, .lp 3 0) :: (2, .lp 2 0) :: yfd 0 [AV.fn g caps]) x with
    | none => exact hq
    | some y => exact absurd hq (this y)
  show Lex _ _ _ _ _ [] _
  refine .nil ?_
  show A _ _ _ _ _
  refine A_weak (s' := S [(0, .fn g caps), (2, .lp 2 0), (3, .lp 3 0), (1000000, .lp 2 0), (1000001, .lp 3 0)] _) ?_ ⟨subF_look ⟨rfl, rfl, rfl, rfl, rfl, trivial⟩, fun id x h => h⟩
  have hk0 := hm.keys
  have hbig : ∀ i, i < 1000 → ∀ j ∈ yew (hs ++ hs'), Nat.beq i j = false := fun i hi j hj => yeq (by have := hk0 j hj; omega)
  refine yae ?_
  refine yah (lf := lfT) rfl ?_
  refine zC ?_
  refine L_callI (pre := [_, _]) (xs := []) (t' := [(2, .lp 2 0), (3, .lp 3 0), (1000000, .lp 2 0), (1000001, .lp 3 0)]) hc rfl rfl rfl (ahead_cat hk0) hm.only (fun x y hy => ⟨subT_look (by (repeat (first | exact yca | refine ybm rfl ?_))) x y hy, fun i hi => ?_⟩) rfl rfl rfl ?_
  · simp only [ybb] at hy
    (repeat' split at hy)
    all_goals first | (cases hy; exact hbig _ (by omega) i hi) | cases hy
  (repeat (first | refine zI ?_ | refine zL ?_ | refine zC ?_ | refine yaf ?_ | refine yae ?_ | refine zR ?_ | refine zD ?_ | refine zK ?_ | refine zB ?_ | refine zA ?_ | refine zS ?_ | refine zU ?_ | refine zV ?_ | refine zF ?_ | with_reducible refine yab ?_ | with_reducible refine yad ?_ | refine yaa ?_ | refine yac ?_ | refine yag ?_ | refine zT ?_ | refine zE ?_ | refine zX ?_))
  refine yau ?_
  refine ends_defer (h' := hs') (args0 := [.lp 1002 0, .lp 1003 0]) [(1002, 2), (1003, 3)] rfl rfl rfl ⟨rfl, rfl, trivial⟩ (closure_idle 0 0) rfl rfl rfl rfl (yak rfl (yak rfl yar)) rfl (fun j ob hj hob => ⟨fun i hi => (freshH_look (hm.fresh2 i (cat_lt hi))).2 j ob hob, ob, ?_, .inl rfl⟩) rfl (ybk _) (fun id o ho => ?_)
  · refine (hlook_apd (f := [(3, _), (2, _), (3, _), (2, _)]) ?_).trans hob
    simp [yew, yda] at hj ⊢
    omega
  · refine (hlook_apd (f := yik _ _ _) ?_).trans ho
    have := hk0 id (by simp only [yew, List.map_append, List.mem_append]; exact .inr (ydv (by rw [ho]; rfl)))
    simp [yew, yik]
    omega
theorem catch_bad {p e : Int} (hc : ykn Tryz.prog g caps (yao hs) (yis p e)) (hm : CatMem g caps hs []) : yia Tryz.prog 21 [.fn g caps] (yao hs) (.tup [i64 p, i64 e]) (yao []) := by
  refine conM_ofD tok Tryz.func21 rfl rfl Tryz.ntmps21 Tryz.results21 rfl (fun id o ho hi => by cases ho) ?_
  show AF _ _ _ _ (S _ _)
  have f1 : yea 2 (yfd 0 [AV.fn g caps]) = true := by
    show yea 2 [(0, .fn g caps)] = true
    simp [yea, ment, hm.caps 2 (by omega)]
  have f2 : yea 3 ((2, .lp 2 0) :: yfd 0 [AV.fn g caps]) = true := by
    show yea 3 [(2, .lp 2 0), (0, .fn g caps)] = true
    simp [yea, ment, hm.caps 3 (by omega)]
  refine yej (ydy ?_)
  refine yah (lf := lfT) rfl ?_
  refine zA (h1 := f1) (h2 := hm.fresh 2 (by omega)) ?_
  refine zA (h1 := f2) (h2 := fresh_c rfl rfl (hm.fresh 3 (by omega))) ?_
  refine yaf ?_
  show AF _ _ _ _ (S _ _)
  refine yej ?_
  refine AF_region_defer (lf := lfT) 1 rfl rfl rfl rfl rfl rfl (fun d h => by cases h) ?_
  refine zF ?_
  refine yaf ⟨rfl, _, _, _, ⟨_, Tryz.func43, rfl, rfl⟩, rfl, rfl, fun x hx => ?_, ?_⟩
  · have : ∀ y, ybb ((4, .fn 43 [.lp 2 0, .lp 3 0]) :: (3, .lp 3 0) :: (2, .lp 2 0) :: yfd 0 [AV.fn g caps]) x ≠ some y := fun y hy => by
      simp only [ybb, yfd] at hy
      (repeat' split at hy)
      all_goals first | (rename_i hb; have := Nat.eq_of_beq_eq_true hb; omega) | cases hy
    cases hq : ybb ((4, .fn 43 [.lp 2 0, .lp 3 0]) :: (3, .lp 3 0) :: (2, .lp 2 0) :: yfd 0 [AV.fn g caps]) x with
    | none => exact hq
    | some y => exact absurd hq (this y)
  show Lex _ _ _ _ _ [] _
  refine .nil ?_
  show A _ _ _ _ _
  refine A_weak (s' := S [(0, .fn g caps), (2, .lp 2 0), (3, .lp 3 0), (1000000, .lp 2 0), (1000001, .lp 3 0)] _) ?_ ⟨subF_look ⟨rfl, rfl, rfl, rfl, rfl, trivial⟩, fun id x h => h⟩
  have hk0 := hm.keys
  rw [List.append_nil] at hk0
  refine yae ?_
  refine yav (lf := lfT) 1 rfl rfl rfl ?_
  refine zC ?_
  refine yaf ⟨rfl, ?_⟩
  refine D_callI (pre := [_, _]) (xs := []) (t' := [(2, .lp 2 0), (3, .lp 3 0), (1000000, .lp 2 0), (1000001, .lp 3 0)]) hc rfl rfl (ahead_cat hk0) (by (repeat (first | exact yca | refine ybm rfl ?_))) ?_
  refine ends_defer (h' := []) (args0 := [.lp 1002 0, .lp 1003 0]) [(1002, 2), (1003, 3)] rfl rfl rfl ⟨rfl, rfl, trivial⟩ (closure_caught p e 0 0) rfl rfl rfl rfl (yak rfl (yak rfl yar)) rfl (fun j ob hj hob => by cases hob) rfl (ybk _) (fun id o ho => by cases ho)
end
end Go.Proofs.YtcpgpiabeimefaaGreatDoor
set_option linter.unusedVariables false
set_option maxRecDepth 100000
set_option maxHeartbeats 4000000
namespace Go.Proofs.YtcpgpiabeimefaaGreatDoor
open Go.RowKit
theorem tokIn_scan {s : ByteArray} {ts : List Tok} (h : ygv s = .ok ts) : yfg s ts := by
  intro t ht
  obtain ⟨h1, h2, h3, h4, _⟩ := (good_of s ts h).mem t ht
  refine ⟨h3, h4, fun hn => ?_⟩
  obtain ⟨_, _, c, x, hc, hl⟩ := (nmW_spec hn).1
  simp only [pwT] at hc
  have : ∃ r, yaj s t.from_ = c :: r := by
    cases hb : yaj s t.from_ with
    | nil => rw [hb] at hc; simp at hc
    | cons d r =>
      rw [hb] at hc
      obtain ⟨k, hk⟩ : ∃ k, t.to - t.from_ = k + 1 := ⟨t.to - t.from_ - 1, by omega⟩
      rw [hk] at hc
      simp only [List.take_succ_cons, List.cons.injEq] at hc
      rw [hc.1]
      exact ⟨r, rfl⟩
  obtain ⟨r, hr⟩ := this
  rw [hr] at h2
  simp only [yhv, hl, if_true] at h2
  split at h2
  · cases h2
  · simp only [Except.ok.injEq, Prod.mk.injEq] at h2
    exact h2.1.symm
section
variable {s : ByteArray} {ts : List Tok} {names : List Bs} {us : List Value}
def p1H (s : ByteArray) (ts : List Tok) (names : List Bs) (x : AV) : List (Nat × Option LObj) := [(1001, some (rdO s ts names [])), (1004, some (.cells [x]))]
theorem p1_cl {ts' : List Tok} {x y : AV} : ∀ id o, yao (p1H s ts' names y) id = some o → isC o = true → 6 ≤ id ∧ ∃ o', yao (p1H s ts names x) id = some o' ∧ isC o' = true := by
  intro id o ho hc
  simp only [p1H, yao] at ho ⊢
  cases h1 : Nat.beq id 1001 with
  | true => have := Nat.eq_of_beq_eq_true h1; exact ⟨by omega, _, rfl, rfl⟩
  | false =>
    simp only [h1] at ho
    cases h2 : Nat.beq id 1004 with
    | true => have := Nat.eq_of_beq_eq_true h2; exact ⟨by omega, _, rfl, rfl⟩
    | false => simp only [h2] at ho; cases ho
theorem p1_ok {x : List Tm} (h : yfg s ts) (hr : yif 23 [] s names [] ts (.ok x [])) : yia Tryz.prog 22 [.lp 1001 0, .lp 1004 0] (yao (p1H s ts names (.v (.slice none 0 0)))) (.tup []) (yao (p1H s [] names (ybc x))) := by
  have c1 := yiq (ts1 := []) hr (List.nil_suffix)
  refine ycw tok Tryz.func22 rfl rfl Tryz.ntmps22 Tryz.results22 rfl p1_cl ?_
  show A _ _ _ _ (S _ _)
  (repeat (first | refine zI ?_ | refine zL ?_ | refine zC ?_ | refine yaf ?_ | refine yae ?_ | refine zR ?_ | refine zD ?_ | refine zK ?_ | refine zB ?_ | refine zA ?_ | refine zS ?_ | refine zU ?_ | refine zV ?_ | refine zF ?_ | with_reducible refine yab ?_ | with_reducible refine yad ?_ | refine yaa ?_ | refine yac ?_ | refine yag ?_ | refine zT ?_ | refine zE ?_ | refine zX ?_ | refine ybx 1001 c1 rfl rfl rfl rfl rfl rfl rfl rfl rfl rfl ?_ | refine ybx 1001 (done_con (ts := [])) rfl rfl rfl rfl rfl rfl rfl rfl rfl rfl ?_))
  exact ⟨_, rfl, ybk _, yba (yak rfl (yak rfl yar))⟩
theorem p1_left {x : List Tm} {ts1 : List Tok} (h : yfg s ts) (hs : ts1 <:+ ts) (hne : ts1 ≠ []) (hr : yif 23 [] s names [] ts (.ok x (ts1.map (pwT s)))) : ykn Tryz.prog 22 [.lp 1001 0, .lp 1004 0] (yao (p1H s ts names (.v (.slice none 0 0)))) (yis (ygs s ts1) 4) := by
  have c1 := yiq hr hs
  refine conP_of Tryz.func22 rfl rfl Tryz.ntmps22 rfl ?_
  show A _ _ _ _ (S _ _)
  (repeat (first | with_reducible refine yad ?_ | with_reducible refine yab ?_ | refine yac ?_ | refine yae ?_ | refine yaa ?_)); refine yah (lf := lfT) rfl ?_
  (repeat (first | refine zI ?_ | refine zL ?_ | refine zC ?_ | refine zK ?_ | refine zB ?_ | refine zA ?_ | refine zS ?_ | refine zU ?_ | refine zV ?_ | refine zF ?_ | refine zX ?_ | refine yaf ?_ | refine ybx 1001 c1 rfl rfl rfl rfl rfl rfl rfl rfl rfl rfl ?_))
  (repeat (first | with_reducible refine yad ?_ | with_reducible refine yab ?_ | refine yac ?_ | refine yae ?_ | refine yaa ?_)); refine yah (lf := lfT) rfl ?_
  (repeat (first | refine zI ?_ | refine zL ?_ | refine zC ?_ | refine zK ?_ | refine zB ?_ | refine zA ?_ | refine zS ?_ | refine zU ?_ | refine zV ?_ | refine zF ?_ | refine zX ?_ | refine yaf ?_ | refine ybx 1001 done_con rfl rfl rfl rfl rfl rfl rfl rfl rfl rfl ?_))
  (repeat (first | with_reducible refine yad ?_ | with_reducible refine yab ?_ | refine yac ?_ | refine yae ?_ | refine yaa ?_))
  obtain ⟨t, r, rfl⟩ : ∃ t r, ts1 = t :: r := by cases ts1 with | nil => exact absurd rfl hne | cons t r => exact ⟨t, r, rfl⟩
  refine zT ?_
  (repeat (first | with_reducible refine yad ?_ | with_reducible refine yab ?_ | refine yac ?_ | refine yae ?_ | refine yaa ?_)); refine yav (lf := lfT) 0 rfl rfl rfl ?_
  exact yaf ⟨rfl, yiv 1001 (fail_con 4) rfl rfl rfl rfl rfl⟩
theorem p1_bad {c : Int} {ts1 : List Tok} (h : yfg s ts) (hs : ts1 <:+ ts) (hr : yif 23 [] s names [] ts (.bad c (ts1.map (pwT s)))) : ykn Tryz.prog 22 [.lp 1001 0, .lp 1004 0] (yao (p1H s ts names (.v (.slice none 0 0)))) (yis (ygs s ts1) c) := by
  have c1 := yhe hr hs
  refine conP_of Tryz.func22 rfl rfl Tryz.ntmps22 rfl ?_
  show A _ _ _ _ (S _ _)
  (repeat (first | with_reducible refine yad ?_ | with_reducible refine yab ?_ | refine yac ?_ | refine yae ?_ | refine yaa ?_)); refine yav (lf := lfT) 0 rfl rfl rfl ?_
  exact yaf ⟨rfl, yiv 1001 c1 rfl rfl rfl rfl rfl⟩
theorem fresh_p1 {i : Nat} {x : AV} (hi : i < 1000) (hx : ment i x = false) : ydt i (p1H s ts names x) = true :=
  fresh_rd (yeq (by omega)) (fresh_c (yeq (by omega)) (by simp [ment.mentL, hx]) rfl)
theorem keys_p1 {ts' : List Tok} {x y : AV} : ∀ i ∈ yew (p1H s ts names x ++ p1H s ts' names y), 1000 ≤ i := by
  intro i hi
  simp [yew, p1H] at hi
  omega
theorem caps_p1 : ∀ i, i < 1000 → ment.mentL i [.lp 1001 0, .lp 1004 0] = false := by
  intro i hi
  simp only [ment.mentL, ment, Bool.or_false]
  rw [yeq (by omega), yeq (by omega)]; rfl
theorem catm_ok {x : List Tm} : CatMem 22 [.lp 1001 0, .lp 1004 0] (p1H s ts names (.v (.slice none 0 0))) (p1H s [] names (ybc x)) := by
  refine ⟨keys_p1, caps_p1, fun i hi => fresh_p1 hi rfl, fun i hi => fresh_p1 hi rfl, fun id o ho => ?_⟩
  simp only [p1H, yao] at ho
  split at ho
  · cases ho
    simp only [rdO, yjw, ygc.onlyL, onlyL_v]
    rfl
  · split at ho
    · cases ho; rfl
    · cases ho
theorem catm_bad : CatMem 22 [.lp 1001 0, .lp 1004 0] (p1H s ts names (.v (.slice none 0 0))) [] := by
  refine ⟨?_, caps_p1, fun i hi => fresh_p1 hi rfl, fun i hi => rfl, fun id o ho => by cases ho⟩
  intro i hi
  simp [yew, p1H] at hi
  omega
def parseA (q : List Tm × Int × Int) : AV := .tup [ybc q.1, i64 q.2.1, i64 q.2.2]
theorem frz_px0 {h : Nat → Option LObj} {r : List Tm × Int × Int} {a b : Int} (hr : r = ([], a, b)) : Frz h (.tup [.v (.slice none 0 0), .v (.int .i64 a), .v (.int .i64 b)]) (parseA r) := by
  subst hr; exact Frz.tup3 Frz.nil Frz.pure Frz.pure
theorem place_at {ts1 : List Tok} (h : ts1 <:+ ts) : ygs s ts1 = atPlace s ts (ts1.map (pwT s)) := by
  have := tsOf_suf h
  unfold atPlace ygs
  rw [List.length_map]
  unfold yku at this
  rw [this]
  cases ts1 <;> rfl
theorem parse_con (s : ByteArray) (names : List Bs) (hs : s.size ≤ 1000000000) (hl : names.length ≤ 1000) (hn : ∀ x ∈ names, x.length ≤ 1000) : Con Tryz.prog 11 [yff s, ybe names] (parseA (yie nmW names s)) := by
  refine ybt Tryz.func11 rfl rfl Tryz.ntmps11 Tryz.results11 rfl rfl ?_
  (repeat (first | refine zI ?_ | refine zL ?_ | refine zC ?_ | refine yaf ?_ | refine yae ?_ | refine zR ?_ | refine zD ?_ | refine zK ?_ | refine zB ?_ | refine zA ?_ | refine zS ?_ | refine zU ?_ | refine zV ?_ | refine zF ?_ | with_reducible refine yab ?_ | with_reducible refine yad ?_ | refine yaa ?_ | refine yac ?_ | refine yag ?_ | refine zT ?_ | refine zE ?_ | refine zX ?_ | refine yal rfl rfl (good_con names hl hn) rfl rfl ?_))
  refine yaq rfl (fun h1 => ?_) (fun h1 => ?_)
  · (repeat (first | refine zI ?_ | refine zL ?_ | refine zC ?_ | refine yaf ?_ | refine yae ?_ | refine zR ?_ | refine zD ?_ | refine zK ?_ | refine zB ?_ | refine zA ?_ | refine zS ?_ | refine zU ?_ | refine zV ?_ | refine zF ?_ | with_reducible refine yab ?_ | with_reducible refine yad ?_ | refine yaa ?_ | refine yac ?_ | refine yag ?_ | refine zT ?_ | refine zE ?_ | refine zX ?_))
    refine yau ?_; refine ⟨_, rfl, ?_⟩
    exact frz_px0 (parseX_bad (by simpa using h1))
  have hg : ydw nmW names = true := by simpa using h1
  (repeat (first | refine zI ?_ | refine zL ?_ | refine zC ?_ | refine yaf ?_ | refine yae ?_ | refine zR ?_ | refine zD ?_ | refine zK ?_ | refine zB ?_ | refine zA ?_ | refine zS ?_ | refine zU ?_ | refine zV ?_ | refine zF ?_ | with_reducible refine yab ?_ | with_reducible refine yad ?_ | refine yaa ?_ | refine yac ?_ | refine yag ?_ | refine zT ?_ | refine zE ?_ | refine zX ?_))
  have hsc := scan_con s (by omega)
  cases hscan : ygv s with
  | error pe =>
    obtain ⟨p, e⟩ := pe
    have hbd := scan_pos hscan
    rw [ykh, hscan] at hsc
    (repeat (first | refine zI ?_ | refine zL ?_ | refine zC ?_ | refine yaf ?_ | refine yae ?_ | refine zR ?_ | refine zD ?_ | refine zK ?_ | refine zB ?_ | refine zA ?_ | refine zS ?_ | refine zU ?_ | refine zV ?_ | refine zF ?_ | with_reducible refine yab ?_ | with_reducible refine yad ?_ | refine yaa ?_ | refine yac ?_ | refine yag ?_ | refine zT ?_ | refine zE ?_ | refine zX ?_ | refine yal rfl rfl hsc rfl rfl ?_))
    refine yaq rfl (fun h2 => ?_) (fun h2 => ?_)
    · (repeat (first | refine zI ?_ | refine zL ?_ | refine zC ?_ | refine yaf ?_ | refine yae ?_ | refine zR ?_ | refine zD ?_ | refine zK ?_ | refine zB ?_ | refine zA ?_ | refine zS ?_ | refine zU ?_ | refine zV ?_ | refine zF ?_ | with_reducible refine yab ?_ | with_reducible refine yad ?_ | refine yaa ?_ | refine yac ?_ | refine yag ?_ | refine zT ?_ | refine zE ?_ | refine zX ?_))
      refine yau ?_; refine ⟨_, rfl, ?_⟩
      exact frz_px0 (parseX_err hg hscan)
    · simp at h2
      omega
  | ok ts =>
    rw [ykh, hscan] at hsc
    have hti := tokIn_scan hscan
    have htl := scanF_len hscan
    obtain ⟨res, hres⟩ := pars_total (nm := nmW) (names := names) (ts.map (pwT s))
    have hpx := parseX_of hg hscan hres
    rw [hpx]
    obtain ⟨f, hf⟩ := hres
    have hrd := (parser_rd (us := []) hl hs f f (Nat.le_refl _)).choice ts res hti (by omega) hf
    have sp := yfm _ _ _ _ hf
    cases res with
    | bad c rest =>
      obtain ⟨ts1, hs1, rfl⟩ := ycm sp.1
      have hcat := catch_bad (p1_bad hti hs1 hrd) catm_bad
      have hc0 : c = 4 ∨ c = 5 := sp.2.1
      (repeat (first | refine zI ?_ | refine zL ?_ | refine zC ?_ | refine yaf ?_ | refine yae ?_ | refine zR ?_ | refine zD ?_ | refine zK ?_ | refine zB ?_ | refine zA ?_ | refine zS ?_ | refine zU ?_ | refine zV ?_ | refine zF ?_ | with_reducible refine yab ?_ | with_reducible refine yad ?_ | refine yaa ?_ | refine yac ?_ | refine yag ?_ | refine zT ?_ | refine zE ?_ | refine zX ?_ | refine yal rfl rfl hsc rfl rfl ?_))
      refine yfl [(1001, 10), (1004, 11)] hcat rfl rfl rfl rfl rfl rfl rfl (yak rfl (yak rfl yar)) rfl rfl rfl rfl rfl rfl ?_
      (repeat (first | refine zI ?_ | refine zL ?_ | refine zC ?_ | refine yaf ?_ | refine yae ?_ | refine zR ?_ | refine zD ?_ | refine zK ?_ | refine zB ?_ | refine zA ?_ | refine zS ?_ | refine zU ?_ | refine zV ?_ | refine zF ?_ | with_reducible refine yab ?_ | with_reducible refine yad ?_ | refine yaa ?_ | refine yac ?_ | refine yag ?_ | refine zT ?_ | refine zE ?_ | refine zX ?_))
      refine yaq rfl (fun h2 => ?_) (fun h2 => ?_)
      · (repeat (first | refine zI ?_ | refine zL ?_ | refine zC ?_ | refine yaf ?_ | refine yae ?_ | refine zR ?_ | refine zD ?_ | refine zK ?_ | refine zB ?_ | refine zA ?_ | refine zS ?_ | refine zU ?_ | refine zV ?_ | refine zF ?_ | with_reducible refine yab ?_ | with_reducible refine yad ?_ | refine yaa ?_ | refine yac ?_ | refine yag ?_ | refine zT ?_ | refine zE ?_ | refine zX ?_))
        refine yau ?_; refine ⟨_, rfl, ?_⟩
        refine frz_px0 ?_
        rw [place_at hs1]; rfl
      · simp at h2
        omega
    | ok x rest =>
      obtain ⟨ts1, hs1, rfl⟩ := ycm sp.1
      cases ts1 with
      | cons t r =>
        have hcat := catch_bad (p1_left hti hs1 (by simp) hrd) catm_bad
        (repeat (first | refine zI ?_ | refine zL ?_ | refine zC ?_ | refine yaf ?_ | refine yae ?_ | refine zR ?_ | refine zD ?_ | refine zK ?_ | refine zB ?_ | refine zA ?_ | refine zS ?_ | refine zU ?_ | refine zV ?_ | refine zF ?_ | with_reducible refine yab ?_ | with_reducible refine yad ?_ | refine yaa ?_ | refine yac ?_ | refine yag ?_ | refine zT ?_ | refine zE ?_ | refine zX ?_ | refine yal rfl rfl hsc rfl rfl ?_))
        refine yfl [(1001, 10), (1004, 11)] hcat rfl rfl rfl rfl rfl rfl rfl (yak rfl (yak rfl yar)) rfl rfl rfl rfl rfl rfl ?_
        (repeat (first | refine zI ?_ | refine zL ?_ | refine zC ?_ | refine yaf ?_ | refine yae ?_ | refine zR ?_ | refine zD ?_ | refine zK ?_ | refine zB ?_ | refine zA ?_ | refine zS ?_ | refine zU ?_ | refine zV ?_ | refine zF ?_ | with_reducible refine yab ?_ | with_reducible refine yad ?_ | refine yaa ?_ | refine yac ?_ | refine yag ?_ | refine zT ?_ | refine zE ?_ | refine zX ?_))
        refine yau ?_; refine ⟨_, rfl, ?_⟩
        refine frz_px0 ?_
        rw [place_at hs1]; rfl
      | nil =>
        have hcat := catch_ok (p1_ok (names := names) hti hrd) catm_ok
        have hxl : x.length ≤ 1000000 := by
          have := sp.2.1
          simp only [List.length_map, NT.had] at this
          omega
        (repeat (first | refine zI ?_ | refine zL ?_ | refine zC ?_ | refine yaf ?_ | refine yae ?_ | refine zR ?_ | refine zD ?_ | refine zK ?_ | refine zB ?_ | refine zA ?_ | refine zS ?_ | refine zU ?_ | refine zV ?_ | refine zF ?_ | with_reducible refine yab ?_ | with_reducible refine yad ?_ | refine yaa ?_ | refine yac ?_ | refine yag ?_ | refine zT ?_ | refine zE ?_ | refine zX ?_ | refine yal rfl rfl hsc rfl rfl ?_))
        refine yfl [(1001, 10), (1004, 11)] hcat rfl rfl rfl rfl rfl rfl rfl (yak rfl (yak rfl yar)) rfl rfl rfl rfl rfl rfl ?_
        (repeat (first | refine zI ?_ | refine zL ?_ | refine zC ?_ | refine yaf ?_ | refine yae ?_ | refine zR ?_ | refine zD ?_ | refine zK ?_ | refine zB ?_ | refine zA ?_ | refine zS ?_ | refine zU ?_ | refine zV ?_ | refine zF ?_ | with_reducible refine yab ?_ | with_reducible refine yad ?_ | refine yaa ?_ | refine yac ?_ | refine yag ?_ | refine zT ?_ | refine zE ?_ | refine zX ?_ | refine L_load1 tok rfl rfl rfl rfl rfl rfl rfl ?_ | refine yal rfl rfl (xvalid_con x names.length hxl) rfl rfl ?_))
        refine yaq rfl (fun h3 => ?_) (fun h3 => ?_)
        · have h3 : ycp x names.length = false := by simpa using h3
          (repeat (first | refine zI ?_ | refine zL ?_ | refine zC ?_ | refine yaf ?_ | refine yae ?_ | refine zR ?_ | refine zD ?_ | refine zK ?_ | refine zB ?_ | refine zA ?_ | refine zS ?_ | refine zU ?_ | refine zV ?_ | refine zF ?_ | with_reducible refine yab ?_ | with_reducible refine yad ?_ | refine yaa ?_ | refine yac ?_ | refine yag ?_ | refine zT ?_ | refine zE ?_ | refine zX ?_))
          refine yau ?_; refine ⟨_, rfl, ?_⟩
          exact frz_px0 (by simp [ansX, h3])
        · have h3 : ycp x names.length = true := by simpa using h3
          (repeat (first | refine zI ?_ | refine zL ?_ | refine zC ?_ | refine yaf ?_ | refine yae ?_ | refine zR ?_ | refine zD ?_ | refine zK ?_ | refine zB ?_ | refine zA ?_ | refine zS ?_ | refine zU ?_ | refine zV ?_ | refine zF ?_ | with_reducible refine yab ?_ | with_reducible refine yad ?_ | refine yaa ?_ | refine yac ?_ | refine yag ?_ | refine zT ?_ | refine zE ?_ | refine zX ?_ | refine L_load1 tok rfl rfl rfl rfl rfl rfl rfl ?_))
          refine yau ?_; refine ⟨_, rfl, ?_⟩
          rw [show ansX s ts names.length (.ok x (List.map (pwT s) [])) = (x, 0, 0) by simp [ansX, h3]]
          exact Frz.pure
end
end Go.Proofs.YtcpgpiabeimefaaGreatDoor
set_option linter.unusedVariables false
set_option maxRecDepth 100000
namespace Go.Proofs.YtcpgpiabeimefaaGreatDoor
open Go.RowKit
def lits1 (l : List (DataW Unit)) : List Value := l.flatMap fun | .lit (.int k z) => [.int k z] | _ => []
def lits2 : DataW Unit → List Value
  | .agg l => l.flatMap fun | .lit (.int k z) => [.int k z] | .agg m => lits1 m | _ => []
  | _ => []
def layIn (vs : List Value) : Obj → Obj
  | .cells _ t frozen => .cells vs.toArray t frozen
  | o => o
noncomputable def laidWorld (os : Os) : World :=
  { World.holding Tryz.prog os ⟨#[], #[], []⟩ with heap := (((World.holding Tryz.prog os ⟨#[], #[], []⟩).heap.modify 2 (layIn (lits2 Rows.laid_math_bits_deBruijn32tab))).modify 3 (layIn (lits2 Rows.laid_math_bits_deBruijn64tab))).modify 1 (layIn (lits2 Rows.laid_internal_strconv_uint64pow10)) }
theorem glob_of {laid : List (String × DataW Unit)} {W : World} (hl : (laid.filter fun x => x.1 == "internal/strconv.uint64pow10") = [("internal/strconv.uint64pow10", Rows.laid_internal_strconv_uint64pow10)]) (hs : W.ShapedOpen Tryz.prog) (h : laidMetH Tryz.prog laid W) : ykj W := by
  have h2 := laidMetH.filter (fun x => x.1 == "internal/strconv.uint64pow10") h
  rw [hl] at h2
  have h3 : laidMet Tryz.prog [("internal/strconv.uint64pow10", Lib.tabData .u64 Lib.pow10Tab)] W := h2
  exact Lib.tabIs_of_head (t := 119) (e := 113) (n := 20) gPow10 (by kernel_rfl) Tryz.underlying119 Tryz.underlying113 (by kernel_rfl) (by kernel_rfl) h3
end Go.Proofs.YtcpgpiabeimefaaGreatDoor
