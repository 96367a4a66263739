/- Part 21 of the texts under ExprParses,ExprIsStable,ExprReadsBack,ExprIgnoresBrackets: joined, with what it needs alone. -/
import Derived.Laws.StructEq
import Derived.Test.YtcpgpiabeimefaaGreatDoorP12
import Derived.Test.YtcpgpiabeimefaaGreatDoorP16
import Derived.Test.YtcpgpiabeimefaaGreatDoorP19
import Derived.Test.YtcpgpiabeimefaaGreatDoorP20
set_option linter.unusedVariables false
set_option maxRecDepth 100000
set_option maxHeartbeats 4000000
namespace Go.Proofs.YtcpgpiabeimefaaGreatDoor
open Go.RowKit
theorem recovered_nil : Con Tryz.prog 44 [.v .nilIface] (.tup [.agg [i64 0, i64 0], boolA false]) := by
  refine con_ofT tok Tryz.func44 rfl rfl Tryz.ntmps44 Tryz.results44 rfl rfl ?_
  (repeat (first | refine zI ?_ | refine zL ?_ | refine zC ?_ | refine yag ?_ | refine yae ?_ | refine zR ?_ | refine zD ?_ | refine zK ?_ | refine zB ?_ | refine zA ?_ | refine zS ?_ | refine zU ?_ | refine zV ?_ | refine zF ?_ | with_reducible refine yab ?_ | with_reducible refine yad ?_ | refine yaa ?_ | refine yac ?_ | refine yaf ?_ | refine zT ?_ | refine zE ?_ | refine zX ?_ | refine yaw (yield_eqNilYes (by kernel_rfl) rfl rfl) rfl rfl ?_))
  refine yas ?_; refine ⟨_, rfl, ?_⟩
  exact Frz.pure
theorem recovered_fail (p e : Int) : Con Tryz.prog 44 [.v (failV p e)] (.tup [.agg [i64 p, i64 e], boolA true]) := by
  refine con_ofT tok Tryz.func44 rfl rfl Tryz.ntmps44 Tryz.results44 rfl rfl ?_
  (repeat (first | refine zI ?_ | refine zL ?_ | refine zC ?_ | refine yag ?_ | refine yae ?_ | refine zR ?_ | refine zD ?_ | refine zK ?_ | refine zB ?_ | refine zA ?_ | refine zS ?_ | refine zU ?_ | refine zV ?_ | refine zF ?_ | with_reducible refine yab ?_ | with_reducible refine yad ?_ | refine yaa ?_ | refine yac ?_ | refine yaf ?_ | refine zT ?_ | refine zE ?_ | refine zX ?_ | refine yaw (yield_eqNilNo (by kernel_rfl) rfl rfl) rfl rfl ?_ | refine yaw (yield_assertYes (y := .agg [i64 p, i64 e]) Tryz.underlying72 rfl rfl rfl) rfl rfl ?_))
  refine yas ?_; refine ⟨_, rfl, ?_⟩
  exact Frz.pure
def catH (p e : Int) : List (Nat × Option LObj) := [(1002, some (.cells [i64 p])), (1003, some (.cells [i64 e]))]
theorem cat_cl {p e p' e' : Int} : ∀ id o, yaq (catH p' e') id = some o → isC o = true → 14 ≤ id ∧ ∃ o', yaq (catH p e) id = some o' ∧ isC o' = true := by
  intro id o ho hc
  simp only [catH, yaq] at ho ⊢
  cases h1 : Nat.beq id 1002 with
  | true => have := Nat.eq_of_beq_eq_true h1; exact ⟨by omega, _, rfl, rfl⟩
  | false =>
    simp only [h1] at ho
    cases h2 : Nat.beq id 1003 with
    | true => have := Nat.eq_of_beq_eq_true h2; exact ⟨by omega, _, rfl, rfl⟩
    | false => simp only [h2] at ho; cases ho
theorem closure_idle (p e : Int) : ConK (KD Tryz.prog 43 .returning .returning) [.lp 1002 0, .lp 1003 0] (yaq (catH p e)) (.tup []) (yaq (catH p e)) := by
  refine conKD_recover (lf := lfT) tok Tryz.func43 rfl Tryz.ntmps43 Tryz.results43 rfl cat_cl rfl rfl rfl (by decide) rfl .idle ?_
  show Lex _ _ _ _ _ _ (S _ _)
  (repeat (first | refine zI ?_ | refine zL ?_ | refine zC ?_ | refine yag ?_ | refine yae ?_ | refine zR ?_ | refine zD ?_ | refine zK ?_ | refine zB ?_ | refine zA ?_ | refine zS ?_ | refine zU ?_ | refine zV ?_ | refine zF ?_ | with_reducible refine yab ?_ | with_reducible refine yad ?_ | refine yaa ?_ | refine yac ?_ | refine yaf ?_ | refine zT ?_ | refine zE ?_ | refine zX ?_ | refine yao rfl rfl recovered_nil rfl rfl ?_))
  exact ⟨_, rfl, yav _, yan (yaj rfl (yaj rfl yam))⟩
theorem closure_caught (p e p0 e0 : Int) : ConK (KD Tryz.prog 43 (.panicking (failP p e)) (.panicking [{ v := failV p e, recovered := true }])) [.lp 1002 0, .lp 1003 0] (yaq (catH p0 e0)) (.tup []) (yaq (catH p e)) := by
  refine conKD_recover (lf := lfT) tok Tryz.func43 rfl Tryz.ntmps43 Tryz.results43 rfl cat_cl rfl rfl rfl (by decide) rfl (.caught (failV p e) []) ?_
  show Lex _ _ _ _ _ _ (S _ _)
  (repeat (first | refine zI ?_ | refine zL ?_ | refine zC ?_ | refine yag ?_ | refine yae ?_ | refine zR ?_ | refine zK ?_ | refine zB ?_ | refine zA ?_ | refine zS ?_ | refine zU ?_ | refine zV ?_ | refine zF ?_ | with_reducible refine yab ?_ | with_reducible refine yad ?_ | refine yaa ?_ | refine yac ?_ | refine yaf ?_ | refine zT ?_ | refine zE ?_ | refine zX ?_ | refine yao rfl rfl (recovered_fail p e) rfl rfl ?_))
  refine A_region_any (lf := lf0) mixed rfl ?_
  refine any_pre [0, 1] 4 (yfb rfl (yfb rfl numOk_nil)) rfl (by kernel_rfl) ?_
  (repeat (first | refine zI ?_ | refine zL ?_ | refine zC ?_ | refine zK ?_ | refine zB ?_ | refine zA ?_ | refine zS ?_ | refine zU ?_ | refine zV ?_ | refine zF ?_ | refine zX ?_ | refine yag ?_))
  refine any_fork [2, 4] 3 rfl (by kernel_rfl) (by simp) ⟨⟨_, rfl, ?_⟩, ⟨_, rfl, ?_⟩, trivial⟩
  · (repeat (first | refine zI ?_ | refine zL ?_ | refine zC ?_ | refine zK ?_ | refine zB ?_ | refine zA ?_ | refine zS ?_ | refine zU ?_ | refine zV ?_ | refine zF ?_ | refine zX ?_ | refine yag ?_))
    refine any_fork [3, 4] 2 rfl (by kernel_rfl) (by simp) ⟨⟨_, rfl, ?_⟩, ⟨_, rfl, ?_⟩, trivial⟩
    · (repeat (first | refine zI ?_ | refine zL ?_ | refine zC ?_ | refine zK ?_ | refine zB ?_ | refine zA ?_ | refine zS ?_ | refine zU ?_ | refine zV ?_ | refine zF ?_ | refine zX ?_ | refine yag ?_))
      refine any_rest [4, 5] (yfb rfl (yfb rfl numOk_nil)) rfl (by kernel_rfl) ?_
      (repeat (first | refine zI ?_ | refine zL ?_ | refine zC ?_ | refine zK ?_ | refine zB ?_ | refine zA ?_ | refine zS ?_ | refine zU ?_ | refine zV ?_ | refine zF ?_ | refine zX ?_ | refine yag ?_))
      exact ⟨_, rfl, yav _, yan (yaj rfl (yaj rfl yam))⟩
    · (repeat (first | refine zI ?_ | refine zL ?_ | refine zC ?_ | refine zK ?_ | refine zB ?_ | refine zA ?_ | refine zS ?_ | refine zU ?_ | refine zV ?_ | refine zF ?_ | refine zX ?_ | refine yag ?_))
      refine any_rest [3, 5] (yfb rfl (yfb rfl numOk_nil)) rfl (by kernel_rfl) ?_
      (repeat (first | refine zI ?_ | refine zL ?_ | refine zC ?_ | refine zK ?_ | refine zB ?_ | refine zA ?_ | refine zS ?_ | refine zU ?_ | refine zV ?_ | refine zF ?_ | refine zX ?_ | refine yag ?_))
      exact ⟨_, rfl, yav _, yan (yaj rfl (yaj rfl yam))⟩
  · (repeat (first | refine zI ?_ | refine zL ?_ | refine zC ?_ | refine zK ?_ | refine zB ?_ | refine zA ?_ | refine zS ?_ | refine zU ?_ | refine zV ?_ | refine zF ?_ | refine zX ?_ | refine yag ?_))
    refine any_rest [2, 3, 5] (yfb rfl (yfb rfl (yfb rfl numOk_nil))) rfl (by kernel_rfl) ?_
    (repeat (first | refine zI ?_ | refine zL ?_ | refine zC ?_ | refine zK ?_ | refine zB ?_ | refine zA ?_ | refine zS ?_ | refine zU ?_ | refine zV ?_ | refine zF ?_ | refine zX ?_ | refine yag ?_))
    exact ⟨_, rfl, yav _, yan (yaj rfl (yaj rfl yam))⟩
section
variable {g : FuncId} {caps : List AV} {hs hs' : List (Nat × Option LObj)}
structure CatMem (g : FuncId) (caps : List AV) (hs hs' : List (Nat × Option LObj)) : Prop where
  keys : ∀ i ∈ keysH (hs ++ hs'), 1000 ≤ i
  caps : ∀ i, i < 1000 → ment.mentL i caps = false
  fresh : ∀ i, i < 1000 → yer i hs = true
  fresh2 : ∀ i, i < 1000 → yer i hs' = true
  only : ∀ id o, yaq hs' id = some o → onlyO (keysH (hs ++ hs')) o = true
theorem ahead_cat {p e : Int} (h : ∀ i ∈ keysH hs, 1000 ≤ i) : Ahead [(3, some (.cells [i64 e])), (2, some (.cells [i64 p]))] hs := by
  refine ⟨fun i hi hm => ?_, fun j ob hj i hi => ?_⟩
  · have := h i hi
    simp [keysH] at hm
    omega
  · have : ob = .cells [i64 e] ∨ ob = .cells [i64 p] := by
      simp only [yaq] at hj
      split at hj
      · cases hj; exact .inl rfl
      · split at hj
        · cases hj; exact .inr rfl
        · cases hj
    rcases this with rfl | rfl <;> rfl
theorem cat_lt {i : Nat} (h : i ∈ ydn [(1002, 2), (1003, 3)]) : i < 1000 := by simp [ydn] at h; omega
theorem catch_ok (hc : ConM Tryz.prog g caps (yaq hs) (.tup []) (yaq hs')) (hm : CatMem g caps hs hs') : ConM Tryz.prog 21 [.fn g caps] (yaq hs) (.tup [i64 0, i64 0]) (yaq hs') := by
  refine conM_ofD tok Tryz.func21 rfl rfl Tryz.ntmps21 Tryz.results21 rfl (fun id o ho hi => ⟨?_, hc.2.1 id o ho hi⟩) ?_
  · have := hm.keys id (by simp only [keysH, List.map_append, List.mem_append]; exact .inr (yen (by rw [ho]; rfl)))
    omega
  show AF _ _ _ _ (S _ _)
  have f1 : yfi 2 (enumF 0 [AV.fn g caps]) = true := by
    show yfi 2 [(0, .fn g caps)] = true
    simp [yfi, ment, hm.caps 2 (by omega)]
  have f2 : yfi 3 ((2, .lp 2 0) :: enumF 0 [AV.fn g caps]) = true := by
    show yfi 3 [(2, .lp 2 0), (0, .fn g caps)] = true
    simp [yfi, ment, hm.caps 3 (by omega)]
  refine yfe (yet ?_)
  refine yah (lf := lfT) rfl ?_
  refine zA (h1 := f1) (h2 := hm.fresh 2 (by omega)) ?_
  refine zA (h1 := f2) (h2 := fresh_c rfl rfl (hm.fresh 3 (by omega))) ?_
  refine yag ?_
  show AF _ _ _ _ (S _ _)
  refine yfe ?_
  refine AF_region_defer (lf := lfT) 1 rfl rfl rfl rfl rfl rfl (fun d h => by cases h) ?_
  refine zF ?_
  refine yag ⟨rfl, _, _, _, ⟨_, Tryz.func43, rfl, rfl⟩, rfl, rfl, fun x hx => ?_, ?_⟩
  · have : ∀ y, ybj ((4, .fn 43 [.lp 2 0, .lp 3 0]) :: (3, .lp 3 0) :: (2, .lp 2 0) :: enumF 0 [AV.fn g caps]) x ≠ some y := fun y hy => by
      simp only [ybj, enumF] at hy
      (repeat' split at hy)
      all_goals first | (rename_i hb; have := Nat.eq_of_beq_eq_true hb; omega) | cases hy
    cases hq : ybj ((4, .fn 43 [.lp 2 0, .lp 3 0]) :: (3, .lp 3 0) :: (2, .lp 2 0) :: enumF 0 [AV.fn g caps]) x with
    | none => exact hq
    | some y => exact absurd hq (this y)
  show Lex _ _ _ _ _ [] _
  refine .nil ?_
  show A _ _ _ _ _
  refine A_weak (s' := S [(0, .fn g caps), (2, .lp 2 0), (3, .lp 3 0), (1000000, .lp 2 0), (1000001, .lp 3 0)] _) ?_ ⟨subF_look ⟨rfl, rfl, rfl, rfl, rfl, trivial⟩, fun id x h => h⟩
  have hk0 := hm.keys
  have hbig : ∀ i, i < 1000 → ∀ j ∈ keysH (hs ++ hs'), Nat.beq i j = false := fun i hi j hj => yfm (by have := hk0 j hj; omega)
  refine yae ?_
  refine yah (lf := lfT) rfl ?_
  refine zC ?_
  refine L_callI (pre := [_, _]) (xs := []) (t' := [(2, .lp 2 0), (3, .lp 3 0), (1000000, .lp 2 0), (1000001, .lp 3 0)]) hc rfl rfl rfl (ahead_cat hk0) hm.only (fun x y hy => ⟨subT_look (by (repeat (first | exact ycg | refine yby rfl ?_))) x y hy, fun i hi => ?_⟩) rfl rfl rfl ?_
  · simp only [ybj] at hy
    (repeat' split at hy)
    all_goals first | (cases hy; exact hbig _ (by omega) i hi) | cases hy
  (repeat (first | refine zI ?_ | refine zL ?_ | refine zC ?_ | refine yag ?_ | refine yae ?_ | refine zR ?_ | refine zD ?_ | refine zK ?_ | refine zB ?_ | refine zA ?_ | refine zS ?_ | refine zU ?_ | refine zV ?_ | refine zF ?_ | with_reducible refine yab ?_ | with_reducible refine yad ?_ | refine yaa ?_ | refine yac ?_ | refine yaf ?_ | refine zT ?_ | refine zE ?_ | refine zX ?_))
  refine yas ?_
  refine ends_defer (h' := hs') (args0 := [.lp 1002 0, .lp 1003 0]) [(1002, 2), (1003, 3)] rfl rfl rfl ⟨rfl, rfl, trivial⟩ (closure_idle 0 0) rfl rfl rfl rfl (yaj rfl (yaj rfl yam)) rfl (fun j ob hj hob => ⟨fun i hi => (freshH_look (hm.fresh2 i (cat_lt hi))).2 j ob hob, ob, ?_, .inl rfl⟩) rfl (yav _) (fun id o ho => ?_)
  · refine (hlook_apd (f := [(3, _), (2, _), (3, _), (2, _)]) ?_).trans hob
    simp [keysH, ydn] at hj ⊢
    omega
  · refine (hlook_apd (f := backH _ _ _) ?_).trans ho
    have := hk0 id (by simp only [keysH, List.map_append, List.mem_append]; exact .inr (yen (by rw [ho]; rfl)))
    simp [keysH, backH]
    omega
theorem catch_bad {p e : Int} (hc : ConP Tryz.prog g caps (yaq hs) (failP p e)) (hm : CatMem g caps hs []) : ConM Tryz.prog 21 [.fn g caps] (yaq hs) (.tup [i64 p, i64 e]) (yaq []) := by
  refine conM_ofD tok Tryz.func21 rfl rfl Tryz.ntmps21 Tryz.results21 rfl (fun id o ho hi => by cases ho) ?_
  show AF _ _ _ _ (S _ _)
  have f1 : yfi 2 (enumF 0 [AV.fn g caps]) = true := by
    show yfi 2 [(0, .fn g caps)] = true
    simp [yfi, ment, hm.caps 2 (by omega)]
  have f2 : yfi 3 ((2, .lp 2 0) :: enumF 0 [AV.fn g caps]) = true := by
    show yfi 3 [(2, .lp 2 0), (0, .fn g caps)] = true
    simp [yfi, ment, hm.caps 3 (by omega)]
  refine yfe (yet ?_)
  refine yah (lf := lfT) rfl ?_
  refine zA (h1 := f1) (h2 := hm.fresh 2 (by omega)) ?_
  refine zA (h1 := f2) (h2 := fresh_c rfl rfl (hm.fresh 3 (by omega))) ?_
  refine yag ?_
  show AF _ _ _ _ (S _ _)
  refine yfe ?_
  refine AF_region_defer (lf := lfT) 1 rfl rfl rfl rfl rfl rfl (fun d h => by cases h) ?_
  refine zF ?_
  refine yag ⟨rfl, _, _, _, ⟨_, Tryz.func43, rfl, rfl⟩, rfl, rfl, fun x hx => ?_, ?_⟩
  · have : ∀ y, ybj ((4, .fn 43 [.lp 2 0, .lp 3 0]) :: (3, .lp 3 0) :: (2, .lp 2 0) :: enumF 0 [AV.fn g caps]) x ≠ some y := fun y hy => by
      simp only [ybj, enumF] at hy
      (repeat' split at hy)
      all_goals first | (rename_i hb; have := Nat.eq_of_beq_eq_true hb; omega) | cases hy
    cases hq : ybj ((4, .fn 43 [.lp 2 0, .lp 3 0]) :: (3, .lp 3 0) :: (2, .lp 2 0) :: enumF 0 [AV.fn g caps]) x with
    | none => exact hq
    | some y => exact absurd hq (this y)
  show Lex _ _ _ _ _ [] _
  refine .nil ?_
  show A _ _ _ _ _
  refine A_weak (s' := S [(0, .fn g caps), (2, .lp 2 0), (3, .lp 3 0), (1000000, .lp 2 0), (1000001, .lp 3 0)] _) ?_ ⟨subF_look ⟨rfl, rfl, rfl, rfl, rfl, trivial⟩, fun id x h => h⟩
  have hk0 := hm.keys
  rw [List.append_nil] at hk0
  refine yae ?_
  refine ybb (lf := lfT) 1 rfl rfl rfl ?_
  refine zC ?_
  refine yag ⟨rfl, ?_⟩
  refine D_callI (pre := [_, _]) (xs := []) (t' := [(2, .lp 2 0), (3, .lp 3 0), (1000000, .lp 2 0), (1000001, .lp 3 0)]) hc rfl rfl (ahead_cat hk0) (by (repeat (first | exact ycg | refine yby rfl ?_))) ?_
  refine ends_defer (h' := []) (args0 := [.lp 1002 0, .lp 1003 0]) [(1002, 2), (1003, 3)] rfl rfl rfl ⟨rfl, rfl, trivial⟩ (closure_caught p e 0 0) rfl rfl rfl rfl (yaj rfl (yaj rfl yam)) rfl (fun j ob hj hob => by cases hob) rfl (yav _) (fun id o ho => by cases ho)
end
end Go.Proofs.YtcpgpiabeimefaaGreatDoor
set_option linter.unusedVariables false
set_option maxRecDepth 100000
set_option maxHeartbeats 4000000
namespace Go.Proofs.YtcpgpiabeimefaaGreatDoor
open Go.RowKit
theorem tokIn_scan {s : ByteArray} {ts : List Tok} (h : scanF s = .ok ts) : yde s ts := by
  intro t ht
  obtain ⟨h1, h2, h3, h4, _⟩ := (good_of s ts h).mem t ht
  refine ⟨h3, h4, fun hn => ?_⟩
  obtain ⟨_, _, c, x, hc, hl⟩ := (nmW_spec hn).1
  simp only [pwT] at hc
  have : ∃ r, yak s t.from_ = c :: r := by
    cases hb : yak s t.from_ with
    | nil => rw [hb] at hc; simp at hc
    | cons d r =>
      rw [hb] at hc
      obtain ⟨k, hk⟩ : ∃ k, t.to - t.from_ = k + 1 := ⟨t.to - t.from_ - 1, by omega⟩
      rw [hk] at hc
      simp only [List.take_succ_cons, List.cons.injEq] at hc
      rw [hc.1]
      exact ⟨r, rfl⟩
  obtain ⟨r, hr⟩ := this
  rw [hr] at h2
  simp only [tokL, hl, if_true] at h2
  split at h2
  · cases h2
  · simp only [Except.ok.injEq, Prod.mk.injEq] at h2
    exact h2.1.symm
section
variable {s : ByteArray} {ts : List Tok} {names : List Bs} {us : List Value}
def p1H (s : ByteArray) (ts : List Tok) (names : List Bs) (x : AV) : List (Nat × Option LObj) := [(1001, some (rdO s ts names [])), (1004, some (.cells [x]))]
theorem p1_cl {ts' : List Tok} {x y : AV} : ∀ id o, yaq (p1H s ts' names y) id = some o → isC o = true → 6 ≤ id ∧ ∃ o', yaq (p1H s ts names x) id = some o' ∧ isC o' = true := by
  intro id o ho hc
  simp only [p1H, yaq] at ho ⊢
  cases h1 : Nat.beq id 1001 with
  | true => have := Nat.eq_of_beq_eq_true h1; exact ⟨by omega, _, rfl, rfl⟩
  | false =>
    simp only [h1] at ho
    cases h2 : Nat.beq id 1004 with
    | true => have := Nat.eq_of_beq_eq_true h2; exact ⟨by omega, _, rfl, rfl⟩
    | false => simp only [h2] at ho; cases ho
theorem p1_ok {x : List Tm} (h : yde s ts) (hr : RdRes 23 [] s names [] ts (.ok x [])) : ConM Tryz.prog 22 [.lp 1001 0, .lp 1004 0] (yaq (p1H s ts names (.v (.slice none 0 0)))) (.tup []) (yaq (p1H s [] names (ybf x))) := by
  have c1 := rd_ok (ts1 := []) hr (List.nil_suffix)
  refine yay tok Tryz.func22 rfl rfl Tryz.ntmps22 Tryz.results22 rfl p1_cl ?_
  show A _ _ _ _ (S _ _)
  (repeat (first | refine zI ?_ | refine zL ?_ | refine zC ?_ | refine yag ?_ | refine yae ?_ | refine zR ?_ | refine zD ?_ | refine zK ?_ | refine zB ?_ | refine zA ?_ | refine zS ?_ | refine zU ?_ | refine zV ?_ | refine zF ?_ | with_reducible refine yab ?_ | with_reducible refine yad ?_ | refine yaa ?_ | refine yac ?_ | refine yaf ?_ | refine zT ?_ | refine zE ?_ | refine zX ?_ | refine ycn 1001 c1 rfl rfl rfl rfl rfl rfl rfl rfl rfl rfl ?_ | refine ycn 1001 (done_con (ts := [])) rfl rfl rfl rfl rfl rfl rfl rfl rfl rfl ?_))
  exact ⟨_, rfl, yav _, yan (yaj rfl (yaj rfl yam))⟩
theorem p1_left {x : List Tm} {ts1 : List Tok} (h : yde s ts) (hs : ts1 <:+ ts) (hne : ts1 ≠ []) (hr : RdRes 23 [] s names [] ts (.ok x (ts1.map (pwT s)))) : ConP Tryz.prog 22 [.lp 1001 0, .lp 1004 0] (yaq (p1H s ts names (.v (.slice none 0 0)))) (failP (yes s ts1) 4) := by
  have c1 := rd_ok hr hs
  refine conP_of Tryz.func22 rfl rfl Tryz.ntmps22 rfl ?_
  show A _ _ _ _ (S _ _)
  (repeat (first | with_reducible refine yad ?_ | with_reducible refine yab ?_ | refine yac ?_ | refine yae ?_ | refine yaa ?_)); refine yah (lf := lfT) rfl ?_
  (repeat (first | refine zI ?_ | refine zL ?_ | refine zC ?_ | refine zK ?_ | refine zB ?_ | refine zA ?_ | refine zS ?_ | refine zU ?_ | refine zV ?_ | refine zF ?_ | refine zX ?_ | refine yag ?_ | refine ycn 1001 c1 rfl rfl rfl rfl rfl rfl rfl rfl rfl rfl ?_))
  (repeat (first | with_reducible refine yad ?_ | with_reducible refine yab ?_ | refine yac ?_ | refine yae ?_ | refine yaa ?_)); refine yah (lf := lfT) rfl ?_
  (repeat (first | refine zI ?_ | refine zL ?_ | refine zC ?_ | refine zK ?_ | refine zB ?_ | refine zA ?_ | refine zS ?_ | refine zU ?_ | refine zV ?_ | refine zF ?_ | refine zX ?_ | refine yag ?_ | refine ycn 1001 done_con rfl rfl rfl rfl rfl rfl rfl rfl rfl rfl ?_))
  (repeat (first | with_reducible refine yad ?_ | with_reducible refine yab ?_ | refine yac ?_ | refine yae ?_ | refine yaa ?_))
  obtain ⟨t, r, rfl⟩ : ∃ t r, ts1 = t :: r := by cases ts1 with | nil => exact absurd rfl hne | cons t r => exact ⟨t, r, rfl⟩
  refine zT ?_
  (repeat (first | with_reducible refine yad ?_ | with_reducible refine yab ?_ | refine yac ?_ | refine yae ?_ | refine yaa ?_)); refine ybb (lf := lfT) 0 rfl rfl rfl ?_
  exact yag ⟨rfl, D_rd 1001 (fail_con 4) rfl rfl rfl rfl rfl⟩
theorem p1_bad {c : Int} {ts1 : List Tok} (h : yde s ts) (hs : ts1 <:+ ts) (hr : RdRes 23 [] s names [] ts (.bad c (ts1.map (pwT s)))) : ConP Tryz.prog 22 [.lp 1001 0, .lp 1004 0] (yaq (p1H s ts names (.v (.slice none 0 0)))) (failP (yes s ts1) c) := by
  have c1 := rd_bad hr hs
  refine conP_of Tryz.func22 rfl rfl Tryz.ntmps22 rfl ?_
  show A _ _ _ _ (S _ _)
  (repeat (first | with_reducible refine yad ?_ | with_reducible refine yab ?_ | refine yac ?_ | refine yae ?_ | refine yaa ?_)); refine ybb (lf := lfT) 0 rfl rfl rfl ?_
  exact yag ⟨rfl, D_rd 1001 c1 rfl rfl rfl rfl rfl⟩
theorem fresh_p1 {i : Nat} {x : AV} (hi : i < 1000) (hx : ment i x = false) : yer i (p1H s ts names x) = true :=
  fresh_rd (yfm (by omega)) (fresh_c (yfm (by omega)) (by simp [ment.mentL, hx]) rfl)
theorem keys_p1 {ts' : List Tok} {x y : AV} : ∀ i ∈ keysH (p1H s ts names x ++ p1H s ts' names y), 1000 ≤ i := by
  intro i hi
  simp [keysH, p1H] at hi
  omega
theorem caps_p1 : ∀ i, i < 1000 → ment.mentL i [.lp 1001 0, .lp 1004 0] = false := by
  intro i hi
  simp only [ment.mentL, ment, Bool.or_false]
  rw [yfm (by omega), yfm (by omega)]; rfl
theorem catm_ok {x : List Tm} : CatMem 22 [.lp 1001 0, .lp 1004 0] (p1H s ts names (.v (.slice none 0 0))) (p1H s [] names (ybf x)) := by
  refine ⟨keys_p1, caps_p1, fun i hi => fresh_p1 hi rfl, fun i hi => fresh_p1 hi rfl, fun id o ho => ?_⟩
  simp only [p1H, yaq] at ho
  split at ho
  · cases ho
    simp only [rdO, onlyO, onlyA.onlyL, onlyL_v]
    rfl
  · split at ho
    · cases ho; rfl
    · cases ho
theorem catm_bad : CatMem 22 [.lp 1001 0, .lp 1004 0] (p1H s ts names (.v (.slice none 0 0))) [] := by
  refine ⟨?_, caps_p1, fun i hi => fresh_p1 hi rfl, fun i hi => rfl, fun id o ho => by cases ho⟩
  intro i hi
  simp [keysH, p1H] at hi
  omega
def parseA (q : List Tm × Int × Int) : AV := .tup [ybf q.1, i64 q.2.1, i64 q.2.2]
theorem frz_px0 {h : Nat → Option LObj} {r : List Tm × Int × Int} {a b : Int} (hr : r = ([], a, b)) : Frz h (.tup [.v (.slice none 0 0), .v (.int .i64 a), .v (.int .i64 b)]) (parseA r) := by
  subst hr; exact Frz.tup3 Frz.nil Frz.pure Frz.pure
theorem place_at {ts1 : List Tok} (h : ts1 <:+ ts) : yes s ts1 = atPlace s ts (ts1.map (pwT s)) := by
  have := tsOf_suf h
  unfold atPlace yes
  rw [List.length_map]
  unfold tsOf at this
  rw [this]
  cases ts1 <;> rfl
theorem parse_con (s : ByteArray) (names : List Bs) (hs : s.size ≤ 1000000000) (hl : names.length ≤ 1000) (hn : ∀ x ∈ names, x.length ≤ 1000) : Con Tryz.prog 11 [strA s, ybl names] (parseA (yfq nmW names s)) := by
  refine ycq Tryz.func11 rfl rfl Tryz.ntmps11 Tryz.results11 rfl rfl ?_
  (repeat (first | refine zI ?_ | refine zL ?_ | refine zC ?_ | refine yag ?_ | refine yae ?_ | refine zR ?_ | refine zD ?_ | refine zK ?_ | refine zB ?_ | refine zA ?_ | refine zS ?_ | refine zU ?_ | refine zV ?_ | refine zF ?_ | with_reducible refine yab ?_ | with_reducible refine yad ?_ | refine yaa ?_ | refine yac ?_ | refine yaf ?_ | refine zT ?_ | refine zE ?_ | refine zX ?_ | refine yao rfl rfl (good_con names hl hn) rfl rfl ?_))
  refine yap rfl (fun h1 => ?_) (fun h1 => ?_)
  · (repeat (first | refine zI ?_ | refine zL ?_ | refine zC ?_ | refine yag ?_ | refine yae ?_ | refine zR ?_ | refine zD ?_ | refine zK ?_ | refine zB ?_ | refine zA ?_ | refine zS ?_ | refine zU ?_ | refine zV ?_ | refine zF ?_ | with_reducible refine yab ?_ | with_reducible refine yad ?_ | refine yaa ?_ | refine yac ?_ | refine yaf ?_ | refine zT ?_ | refine zE ?_ | refine zX ?_))
    refine yas ?_; refine ⟨_, rfl, ?_⟩
    exact frz_px0 (parseX_bad (by simpa using h1))
  have hg : yek nmW names = true := by simpa using h1
  (repeat (first | refine zI ?_ | refine zL ?_ | refine zC ?_ | refine yag ?_ | refine yae ?_ | refine zR ?_ | refine zD ?_ | refine zK ?_ | refine zB ?_ | refine zA ?_ | refine zS ?_ | refine zU ?_ | refine zV ?_ | refine zF ?_ | with_reducible refine yab ?_ | with_reducible refine yad ?_ | refine yaa ?_ | refine yac ?_ | refine yaf ?_ | refine zT ?_ | refine zE ?_ | refine zX ?_))
  have hsc := scan_con s (by omega)
  cases hscan : scanF s with
  | error pe =>
    obtain ⟨p, e⟩ := pe
    have hbd := scan_pos hscan
    rw [scanA, hscan] at hsc
    (repeat (first | refine zI ?_ | refine zL ?_ | refine zC ?_ | refine yag ?_ | refine yae ?_ | refine zR ?_ | refine zD ?_ | refine zK ?_ | refine zB ?_ | refine zA ?_ | refine zS ?_ | refine zU ?_ | refine zV ?_ | refine zF ?_ | with_reducible refine yab ?_ | with_reducible refine yad ?_ | refine yaa ?_ | refine yac ?_ | refine yaf ?_ | refine zT ?_ | refine zE ?_ | refine zX ?_ | refine yao rfl rfl hsc rfl rfl ?_))
    refine yap rfl (fun h2 => ?_) (fun h2 => ?_)
    · (repeat (first | refine zI ?_ | refine zL ?_ | refine zC ?_ | refine yag ?_ | refine yae ?_ | refine zR ?_ | refine zD ?_ | refine zK ?_ | refine zB ?_ | refine zA ?_ | refine zS ?_ | refine zU ?_ | refine zV ?_ | refine zF ?_ | with_reducible refine yab ?_ | with_reducible refine yad ?_ | refine yaa ?_ | refine yac ?_ | refine yaf ?_ | refine zT ?_ | refine zE ?_ | refine zX ?_))
      refine yas ?_; refine ⟨_, rfl, ?_⟩
      exact frz_px0 (parseX_err hg hscan)
    · simp at h2
      omega
  | ok ts =>
    rw [scanA, hscan] at hsc
    have hti := tokIn_scan hscan
    have htl := scanF_len hscan
    obtain ⟨res, hres⟩ := pars_total (nm := nmW) (names := names) (ts.map (pwT s))
    have hpx := parseX_of hg hscan hres
    rw [hpx]
    obtain ⟨f, hf⟩ := hres
    have hrd := (parser_rd (us := []) hl hs f f (Nat.le_refl _)).choice ts res hti (by omega) hf
    have sp := ydi _ _ _ _ hf
    cases res with
    | bad c rest =>
      obtain ⟨ts1, hs1, rfl⟩ := ycw sp.1
      have hcat := catch_bad (p1_bad hti hs1 hrd) catm_bad
      have hc0 : c = 4 ∨ c = 5 := sp.2.1
      (repeat (first | refine zI ?_ | refine zL ?_ | refine zC ?_ | refine yag ?_ | refine yae ?_ | refine zR ?_ | refine zD ?_ | refine zK ?_ | refine zB ?_ | refine zA ?_ | refine zS ?_ | refine zU ?_ | refine zV ?_ | refine zF ?_ | with_reducible refine yab ?_ | with_reducible refine yad ?_ | refine yaa ?_ | refine yac ?_ | refine yaf ?_ | refine zT ?_ | refine zE ?_ | refine zX ?_ | refine yao rfl rfl hsc rfl rfl ?_))
      refine L_callM [(1001, 10), (1004, 11)] hcat rfl rfl rfl rfl rfl rfl rfl (yaj rfl (yaj rfl yam)) rfl rfl rfl rfl rfl rfl ?_
      (repeat (first | refine zI ?_ | refine zL ?_ | refine zC ?_ | refine yag ?_ | refine yae ?_ | refine zR ?_ | refine zD ?_ | refine zK ?_ | refine zB ?_ | refine zA ?_ | refine zS ?_ | refine zU ?_ | refine zV ?_ | refine zF ?_ | with_reducible refine yab ?_ | with_reducible refine yad ?_ | refine yaa ?_ | refine yac ?_ | refine yaf ?_ | refine zT ?_ | refine zE ?_ | refine zX ?_))
      refine yap rfl (fun h2 => ?_) (fun h2 => ?_)
      · (repeat (first | refine zI ?_ | refine zL ?_ | refine zC ?_ | refine yag ?_ | refine yae ?_ | refine zR ?_ | refine zD ?_ | refine zK ?_ | refine zB ?_ | refine zA ?_ | refine zS ?_ | refine zU ?_ | refine zV ?_ | refine zF ?_ | with_reducible refine yab ?_ | with_reducible refine yad ?_ | refine yaa ?_ | refine yac ?_ | refine yaf ?_ | refine zT ?_ | refine zE ?_ | refine zX ?_))
        refine yas ?_; refine ⟨_, rfl, ?_⟩
        refine frz_px0 ?_
        rw [place_at hs1]; rfl
      · simp at h2
        omega
    | ok x rest =>
      obtain ⟨ts1, hs1, rfl⟩ := ycw sp.1
      cases ts1 with
      | cons t r =>
        have hcat := catch_bad (p1_left hti hs1 (by simp) hrd) catm_bad
        (repeat (first | refine zI ?_ | refine zL ?_ | refine zC ?_ | refine yag ?_ | refine yae ?_ | refine zR ?_ | refine zD ?_ | refine zK ?_ | refine zB ?_ | refine zA ?_ | refine zS ?_ | refine zU ?_ | refine zV ?_ | refine zF ?_ | with_reducible refine yab ?_ | with_reducible refine yad ?_ | refine yaa ?_ | refine yac ?_ | refine yaf ?_ | refine zT ?_ | refine zE ?_ | refine zX ?_ | refine yao rfl rfl hsc rfl rfl ?_))
        refine L_callM [(1001, 10), (1004, 11)] hcat rfl rfl rfl rfl rfl rfl rfl (yaj rfl (yaj rfl yam)) rfl rfl rfl rfl rfl rfl ?_
        (repeat (first | refine zI ?_ | refine zL ?_ | refine zC ?_ | refine yag ?_ | refine yae ?_ | refine zR ?_ | refine zD ?_ | refine zK ?_ | refine zB ?_ | refine zA ?_ | refine zS ?_ | refine zU ?_ | refine zV ?_ | refine zF ?_ | with_reducible refine yab ?_ | with_reducible refine yad ?_ | refine yaa ?_ | refine yac ?_ | refine yaf ?_ | refine zT ?_ | refine zE ?_ | refine zX ?_))
        refine yas ?_; refine ⟨_, rfl, ?_⟩
        refine frz_px0 ?_
        rw [place_at hs1]; rfl
      | nil =>
        have hcat := catch_ok (p1_ok (names := names) hti hrd) catm_ok
        have hxl : x.length ≤ 1000000 := by
          have := sp.2.1
          simp only [List.length_map, NT.had] at this
          omega
        (repeat (first | refine zI ?_ | refine zL ?_ | refine zC ?_ | refine yag ?_ | refine yae ?_ | refine zR ?_ | refine zD ?_ | refine zK ?_ | refine zB ?_ | refine zA ?_ | refine zS ?_ | refine zU ?_ | refine zV ?_ | refine zF ?_ | with_reducible refine yab ?_ | with_reducible refine yad ?_ | refine yaa ?_ | refine yac ?_ | refine yaf ?_ | refine zT ?_ | refine zE ?_ | refine zX ?_ | refine yao rfl rfl hsc rfl rfl ?_))
        refine L_callM [(1001, 10), (1004, 11)] hcat rfl rfl rfl rfl rfl rfl rfl (yaj rfl (yaj rfl yam)) rfl rfl rfl rfl rfl rfl ?_
        (repeat (first | refine zI ?_ | refine zL ?_ | refine zC ?_ | refine yag ?_ | refine yae ?_ | refine zR ?_ | refine zD ?_ | refine zK ?_ | refine zB ?_ | refine zA ?_ | refine zS ?_ | refine zU ?_ | refine zV ?_ | refine zF ?_ | with_reducible refine yab ?_ | with_reducible refine yad ?_ | refine yaa ?_ | refine yac ?_ | refine yaf ?_ | refine zT ?_ | refine zE ?_ | refine zX ?_ | refine L_load1 tok rfl rfl rfl rfl rfl rfl rfl ?_ | refine yao rfl rfl (xvalid_con x names.length hxl) rfl rfl ?_))
        refine yap rfl (fun h3 => ?_) (fun h3 => ?_)
        · have h3 : ydc x names.length = false := by simpa using h3
          (repeat (first | refine zI ?_ | refine zL ?_ | refine zC ?_ | refine yag ?_ | refine yae ?_ | refine zR ?_ | refine zD ?_ | refine zK ?_ | refine zB ?_ | refine zA ?_ | refine zS ?_ | refine zU ?_ | refine zV ?_ | refine zF ?_ | with_reducible refine yab ?_ | with_reducible refine yad ?_ | refine yaa ?_ | refine yac ?_ | refine yaf ?_ | refine zT ?_ | refine zE ?_ | refine zX ?_))
          refine yas ?_; refine ⟨_, rfl, ?_⟩
          exact frz_px0 (by simp [ansX, h3])
        · have h3 : ydc x names.length = true := by simpa using h3
          (repeat (first | refine zI ?_ | refine zL ?_ | refine zC ?_ | refine yag ?_ | refine yae ?_ | refine zR ?_ | refine zD ?_ | refine zK ?_ | refine zB ?_ | refine zA ?_ | refine zS ?_ | refine zU ?_ | refine zV ?_ | refine zF ?_ | with_reducible refine yab ?_ | with_reducible refine yad ?_ | refine yaa ?_ | refine yac ?_ | refine yaf ?_ | refine zT ?_ | refine zE ?_ | refine zX ?_ | refine L_load1 tok rfl rfl rfl rfl rfl rfl rfl ?_))
          refine yas ?_; refine ⟨_, rfl, ?_⟩
          rw [show ansX s ts names.length (.ok x (List.map (pwT s) [])) = (x, 0, 0) by simp [ansX, h3]]
          exact Frz.pure
end
end Go.Proofs.YtcpgpiabeimefaaGreatDoor
set_option linter.unusedVariables false
set_option maxRecDepth 100000
set_option maxHeartbeats 4000000
namespace Go.Proofs.YtcpgpiabeimefaaGreatDoor
open Go.RowKit
theorem rparse_con (s : ByteArray) (names : List Bs) (hs : s.size ≤ 1000000000) (hl : names.length ≤ 1000) (hn : ∀ x ∈ names, x.length ≤ 1000) : Con Tryz.prog 12 [strA s, ybl names] (parseA (yfq nmW names s)) := by
  refine ycq Tryz.func12 rfl rfl Tryz.ntmps12 Tryz.results12 rfl rfl ?_
  (repeat (first | refine zI ?_ | refine zL ?_ | refine zC ?_ | refine yag ?_ | refine yae ?_ | refine zR ?_ | refine zD ?_ | refine zK ?_ | refine zB ?_ | refine zA ?_ | refine zS ?_ | refine zU ?_ | refine zV ?_ | refine zF ?_ | with_reducible refine yab ?_ | with_reducible refine yad ?_ | refine yaa ?_ | refine yac ?_ | refine yaf ?_ | refine zT ?_ | refine zE ?_ | refine zX ?_ | refine yao rfl rfl (rgood_con names hl hn) rfl rfl ?_))
  refine yap rfl (fun h1 => ?_) (fun h1 => ?_)
  · (repeat (first | refine zI ?_ | refine zL ?_ | refine zC ?_ | refine yag ?_ | refine yae ?_ | refine zR ?_ | refine zD ?_ | refine zK ?_ | refine zB ?_ | refine zA ?_ | refine zS ?_ | refine zU ?_ | refine zV ?_ | refine zF ?_ | with_reducible refine yab ?_ | with_reducible refine yad ?_ | refine yaa ?_ | refine yac ?_ | refine yaf ?_ | refine zT ?_ | refine zE ?_ | refine zX ?_))
    refine yas ?_; refine ⟨_, rfl, ?_⟩
    exact frz_px0 (parseX_bad (by simpa using h1))
  have hg : yek nmW names = true := by simpa using h1
  (repeat (first | refine zI ?_ | refine zL ?_ | refine zC ?_ | refine yag ?_ | refine yae ?_ | refine zR ?_ | refine zD ?_ | refine zK ?_ | refine zB ?_ | refine zA ?_ | refine zS ?_ | refine zU ?_ | refine zV ?_ | refine zF ?_ | with_reducible refine yab ?_ | with_reducible refine yad ?_ | refine yaa ?_ | refine yac ?_ | refine yaf ?_ | refine zT ?_ | refine zE ?_ | refine zX ?_))
  have hsc := rscan_con s (by omega)
  cases hscan : scanF s with
  | error pe =>
    obtain ⟨p, e⟩ := pe
    have hbd := scan_pos hscan
    rw [scanA, hscan] at hsc
    (repeat (first | refine zI ?_ | refine zL ?_ | refine zC ?_ | refine yag ?_ | refine yae ?_ | refine zR ?_ | refine zD ?_ | refine zK ?_ | refine zB ?_ | refine zA ?_ | refine zS ?_ | refine zU ?_ | refine zV ?_ | refine zF ?_ | with_reducible refine yab ?_ | with_reducible refine yad ?_ | refine yaa ?_ | refine yac ?_ | refine yaf ?_ | refine zT ?_ | refine zE ?_ | refine zX ?_ | refine yao rfl rfl hsc rfl rfl ?_))
    refine yap rfl (fun h2 => ?_) (fun h2 => ?_)
    · (repeat (first | refine zI ?_ | refine zL ?_ | refine zC ?_ | refine yag ?_ | refine yae ?_ | refine zR ?_ | refine zD ?_ | refine zK ?_ | refine zB ?_ | refine zA ?_ | refine zS ?_ | refine zU ?_ | refine zV ?_ | refine zF ?_ | with_reducible refine yab ?_ | with_reducible refine yad ?_ | refine yaa ?_ | refine yac ?_ | refine yaf ?_ | refine zT ?_ | refine zE ?_ | refine zX ?_))
      refine yas ?_; refine ⟨_, rfl, ?_⟩
      exact frz_px0 (parseX_err hg hscan)
    · simp at h2
      omega
  | ok ts =>
    rw [scanA, hscan] at hsc
    have hti := tokIn_scan hscan
    have htl := scanF_len hscan
    obtain ⟨res, hres⟩ := pars_total (nm := nmW) (names := names) (ts.map (pwT s))
    have hpx := parseX_of hg hscan hres
    rw [hpx]
    obtain ⟨f, hf⟩ := hres
    have hrd := (rparser_rd (names := names) hti (by omega) hl hs f f (Nat.le_refl _)).choice 0 0 res (Nat.zero_le _) (by rw [List.drop_zero]; exact hf)
    have sp := ydi _ _ _ _ hf
    cases res with
    | bad c rest =>
      have hc0 := bad_ne sp
      obtain ⟨a1, _, k1, rfl, _⟩ := ydb (a := 0) (by rw [List.drop_zero]; exact sp.1) (Nat.zero_le _)
      obtain ⟨x, a2, q1, q2, q3, c1⟩ := rf_bad hrd k1
      (repeat (first | refine zI ?_ | refine zL ?_ | refine zC ?_ | refine yag ?_ | refine yae ?_ | refine zR ?_ | refine zD ?_ | refine zK ?_ | refine zB ?_ | refine zA ?_ | refine zS ?_ | refine zU ?_ | refine zV ?_ | refine zF ?_ | with_reducible refine yab ?_ | with_reducible refine yad ?_ | refine yaa ?_ | refine yac ?_ | refine yaf ?_ | refine zT ?_ | refine zE ?_ | refine zX ?_ | refine yao rfl rfl hsc rfl rfl ?_ | refine ybi 29 c1 rfl rfl rfl rfl rfl rfl rfl rfl rfl rfl rfl rfl ?_ | refine yal rfl rfl rfl rfl ?_))
      refine ydw 37 rfl (fun h2 => ?_) (fun h2 => ?_)
      · exact absurd (by simpa using h2) hc0
      (repeat (first | refine zI ?_ | refine zL ?_ | refine zC ?_ | refine yag ?_ | refine yae ?_ | refine zR ?_ | refine zD ?_ | refine zK ?_ | refine zB ?_ | refine zA ?_ | refine zS ?_ | refine zU ?_ | refine zV ?_ | refine zF ?_ | with_reducible refine yab ?_ | with_reducible refine yad ?_ | refine yaa ?_ | refine yac ?_ | refine yaf ?_ | refine zT ?_ | refine zE ?_ | refine zX ?_ | refine yal rfl rfl rfl rfl ?_))
      refine yap rfl (fun h3 => ?_) (fun h3 => ?_)
      · (repeat (first | refine zI ?_ | refine zL ?_ | refine zC ?_ | refine yag ?_ | refine yae ?_ | refine zR ?_ | refine zD ?_ | refine zK ?_ | refine zB ?_ | refine zA ?_ | refine zS ?_ | refine zU ?_ | refine zV ?_ | refine zF ?_ | with_reducible refine yab ?_ | with_reducible refine yad ?_ | refine yaa ?_ | refine yac ?_ | refine yaf ?_ | refine zT ?_ | refine zE ?_ | refine zX ?_ | refine yal rfl rfl rfl rfl ?_))
        refine yas ?_; refine ⟨_, rfl, ?_⟩
        refine frz_px0 ?_
        rw [place_at (List.drop_suffix a1 ts)]; rfl
      · exact absurd (by simpa using h3) hc0
    | ok x rest =>
      obtain ⟨a1, _, k1, rfl, _⟩ := ydb (a := 0) (by rw [List.drop_zero]; exact sp.1) (Nat.zero_le _)
      have c1 := rf_ok hrd k1
      have hxl : x.length ≤ 1000000 := by
        have := sp.2.1
        simp only [List.length_map, NT.had] at this
        omega
      (repeat (first | refine zI ?_ | refine zL ?_ | refine zC ?_ | refine yag ?_ | refine yae ?_ | refine zR ?_ | refine zD ?_ | refine zK ?_ | refine zB ?_ | refine zA ?_ | refine zS ?_ | refine zU ?_ | refine zV ?_ | refine zF ?_ | with_reducible refine yab ?_ | with_reducible refine yad ?_ | refine yaa ?_ | refine yac ?_ | refine yaf ?_ | refine zT ?_ | refine zE ?_ | refine zX ?_ | refine yao rfl rfl hsc rfl rfl ?_ | refine ybi 29 c1 rfl rfl rfl rfl rfl rfl rfl rfl rfl rfl rfl rfl ?_ | refine yal rfl rfl rfl rfl ?_))
      refine yap rfl (fun h2 => ?_) (fun h2 => ?_)
      · have h2 : a1 < ts.length := by simp at h2; omega
        obtain ⟨t, ht, hd⟩ := drop_here h2
        (repeat (first | refine zI ?_ | refine zL ?_ | refine zC ?_ | refine yag ?_ | refine yae ?_ | refine zR ?_ | refine zD ?_ | refine zK ?_ | refine zB ?_ | refine zA ?_ | refine zS ?_ | refine zU ?_ | refine zV ?_ | refine zF ?_ | with_reducible refine yab ?_ | with_reducible refine yad ?_ | refine yaa ?_ | refine yac ?_ | refine yaf ?_ | refine zT ?_ | refine zE ?_ | refine zX ?_ | refine ybi 29 (fail_rf 4 k1) rfl rfl rfl rfl rfl rfl rfl rfl rfl rfl rfl rfl ?_ | refine yal rfl rfl rfl rfl ?_))
        refine yas ?_; refine ⟨_, rfl, ?_⟩
        refine frz_px0 ?_
        rw [place_at (List.drop_suffix a1 ts), hd]; rfl
      · have h2 : a1 = ts.length := by simp at h2; omega
        have e0 : (ts.drop a1).map (pwT s) = [] := by rw [List.drop_eq_nil_of_le (by omega)]; rfl
        rw [e0]
        (repeat (first | refine zI ?_ | refine zL ?_ | refine zC ?_ | refine yag ?_ | refine yae ?_ | refine zR ?_ | refine zD ?_ | refine zK ?_ | refine zB ?_ | refine zA ?_ | refine zS ?_ | refine zU ?_ | refine zV ?_ | refine zF ?_ | with_reducible refine yab ?_ | with_reducible refine yad ?_ | refine yaa ?_ | refine yac ?_ | refine yaf ?_ | refine zT ?_ | refine zE ?_ | refine zX ?_ | refine yal rfl rfl rfl rfl ?_ | refine yao rfl rfl (xrvalid_con x names.length hxl) rfl rfl ?_))
        refine yap rfl (fun h3 => ?_) (fun h3 => ?_)
        · have h3 : ydc x names.length = false := by simpa using h3
          (repeat (first | refine zI ?_ | refine zL ?_ | refine zC ?_ | refine yag ?_ | refine yae ?_ | refine zR ?_ | refine zD ?_ | refine zK ?_ | refine zB ?_ | refine zA ?_ | refine zS ?_ | refine zU ?_ | refine zV ?_ | refine zF ?_ | with_reducible refine yab ?_ | with_reducible refine yad ?_ | refine yaa ?_ | refine yac ?_ | refine yaf ?_ | refine zT ?_ | refine zE ?_ | refine zX ?_))
          refine yas ?_; refine ⟨_, rfl, ?_⟩
          exact frz_px0 (by simp [ansX, h3])
        · have h3 : ydc x names.length = true := by simpa using h3
          (repeat (first | refine zI ?_ | refine zL ?_ | refine zC ?_ | refine yag ?_ | refine yae ?_ | refine zR ?_ | refine zD ?_ | refine zK ?_ | refine zB ?_ | refine zA ?_ | refine zS ?_ | refine zU ?_ | refine zV ?_ | refine zF ?_ | with_reducible refine yab ?_ | with_reducible refine yad ?_ | refine yaa ?_ | refine yac ?_ | refine yaf ?_ | refine zT ?_ | refine zE ?_ | refine zX ?_))
          refine yas ?_; refine ⟨_, rfl, ?_⟩
          rw [show ansX s ts names.length (.ok x []) = (x, 0, 0) by simp [ansX, h3]]
          exact Frz.pure
end Go.Proofs.YtcpgpiabeimefaaGreatDoor
set_option linter.unusedVariables false
set_option maxRecDepth 100000
set_option maxHeartbeats 4000000
namespace Go.Proofs.YtcpgpiabeimefaaGreatDoor
open Go.RowKit
theorem eqTm (a b c d : Int) (w : World) : (Op.equalIn 10000 38 (.agg #[.int .i64 a, .int .i64 b]) (.agg #[.int .i64 c, .int .i64 d])).run Tryz.prog w = .ok (a == c && b == d) w := by
  have u3 := Tryz.underlying3
  have a3 := Tryz.isAgg3
  have z3 := Tryz.sizeOf3
  rw [show (10000 : Nat) = 9999 + 1 from rfl, run_equalIn_agg w 9999 38 _ _ (by kernel_rfl) (by kernel_rfl)]
  simp only [Program.fieldsOf, Tryz.underlying38]
  go_simp
  by_cases h1 : a = c <;> by_cases h2 : b = d <;> simp [h1, h2]
def tmA (t : Tm) : AV := .agg [i64 t.1, i64 t.2]
theorem yield_neqT {ρ : Operand → Option AV} {hp : Nat → Option LObj} {x y : Operand} {a b : Tm} {ty' ty : TypeId} (hx : ρ x = some (tmA a)) (hy : ρ y = some (tmA b)) : ydf Tryz.prog hp ρ (.binOp .neq 38 x y ty') ty (boolA (!(a.1 == b.1 && a.2 == b.2))) := by
  have ex : envV ρ x = .agg #[.int .i64 a.1, .int .i64 a.2] := by simp only [envV, hx]; rfl
  have ey : envV ρ y = .agg #[.int .i64 b.1, .int .i64 b.2] := by simp only [envV, hy]; rfl
  refine yea (fun _ _ => by simp) (by simp only [plainL, Op.operands, hx, hy]; rfl) fun w => ?_
  have hg := run_eqGuard_agg (P := Tryz.prog) w .neq 38 x y #[.int .i64 a.1, .int .i64 a.2] #[.int .i64 b.1, .int .i64 b.2] (by kernel_rfl)
  simp [execOp, ex, ey, hg, run_neq_struct, eqTm]
section
variable {N : Nat} {ops : Array Oper} {lf : Oper → Bool} {Q : SS → Prop} {t : List (Nat × AV)} {h : List (Nat × Option LObj)} {rest : List Oper} {d : Nat} {ty : TypeId} {pos : String} {af : Array Edge} {gd : Option (Nat × Bool)}
theorem L_neqT {x y : Operand} {a b : Tm} {ty' : TypeId} (hx : evF (ybj t) x = some (tmA a)) (hy : evF (ybj t) y = some (tmA b))
    (hw : ybh ops (ybj t) ⟨some d, .binOp .neq 38 x y ty', ty, pos, af, gd⟩ = some true) (hd : Nat.blt d N = true) (k : Lex Tryz.prog N ops lf Q rest (S ((d, boolA (!(a.1 == b.1 && a.2 == b.2))) :: t) h)) : Lex Tryz.prog N ops lf Q (⟨some d, .binOp .neq 38 x y ty', ty, pos, af, gd⟩ :: rest) (S t h) :=
  yaw (yield_neqT hx hy) hw hd k
theorem L_true {P : Program} {l : List Oper} (d : Nat) {b : Bool} (hb : ybj t d = some (.v (.bool b))) (he : b = true) (k : Lex P N ops lf Q l (S ((d, .v (.bool true)) :: t) h)) : Lex P N ops lf Q l (S t h) :=
  ydw d hb (fun _ => k) (fun e => by rw [he] at e; cases e)
end
theorem same_con (a b : List Tm) (ha : a.length ≤ 1000000) : Con Tryz.prog 13 [ybf a, ybf b] (boolA (decide (a = b))) := by
  refine ycq Tryz.func13 rfl rfl Tryz.ntmps13 Tryz.results13 rfl rfl ?_
  (repeat (first | refine zI ?_ | refine zL ?_ | refine zC ?_ | refine yag ?_ | refine yae ?_ | refine zR ?_ | refine zD ?_ | refine zK ?_ | refine zB ?_ | refine zA ?_ | refine zS ?_ | refine zU ?_ | refine zV ?_ | refine zF ?_ | with_reducible refine yab ?_ | with_reducible refine yad ?_ | refine yaa ?_ | refine yac ?_ | refine yaf ?_ | refine zT ?_ | refine zE ?_ | refine zX ?_))
  refine yap rfl (fun h1 => ?_) (fun h1 => ?_)
  · have h1 : a.length ≠ b.length := by simp at h1; omega
    (repeat (first | refine zI ?_ | refine zL ?_ | refine zC ?_ | refine yag ?_ | refine yae ?_ | refine zR ?_ | refine zD ?_ | refine zK ?_ | refine zB ?_ | refine zA ?_ | refine zS ?_ | refine zU ?_ | refine zV ?_ | refine zF ?_ | with_reducible refine yab ?_ | with_reducible refine yad ?_ | refine yaa ?_ | refine yac ?_ | refine yaf ?_ | refine zT ?_ | refine zE ?_ | refine zX ?_))
    refine yas ?_; refine ⟨_, rfl, ?_⟩
    exact ybz (by rw [decide_eq_false]; intro e; rw [e] at h1; exact h1 rfl)
  have h1 : a.length = b.length := by simp at h1; omega
  (repeat (first | refine zI ?_ | refine zL ?_ | refine zC ?_ | refine yag ?_ | refine yae ?_ | refine zR ?_ | refine zD ?_ | refine zK ?_ | refine zB ?_ | refine zA ?_ | refine zS ?_ | refine zU ?_ | refine zV ?_ | refine zF ?_ | with_reducible refine yab ?_ | with_reducible refine yad ?_ | refine yaa ?_ | refine yac ?_ | refine yaf ?_ | refine zT ?_ | refine zE ?_ | refine zX ?_))
  refine A_inv (α := Nat) (fun k => [(5, i64 k), (1, ybf b), (0, ybf a)]) (fun k => []) (fun k => a.length - k) (fun k => k ≤ a.length ∧ a.take k = b.take k) 0 ⟨by omega, by simp⟩ (by (repeat (first | exact ycg | refine yby rfl ?_))) yam ?_
  rintro k ⟨hk, he⟩
  (repeat (first | refine zI ?_ | refine zL ?_ | refine zC ?_ | refine yag ?_ | refine yae ?_ | refine zR ?_ | refine zD ?_ | refine zK ?_ | refine zB ?_ | refine zA ?_ | refine zS ?_ | refine zU ?_ | refine zV ?_ | refine zF ?_ | with_reducible refine yab ?_ | with_reducible refine yad ?_ | refine yaa ?_ | refine yac ?_ | refine yaf ?_ | refine zT ?_ | refine zE ?_ | refine zX ?_))
  refine yap rfl (fun h2 => ?_) (fun h2 => ?_)
  · have h2 : k < a.length := by simpa using h2
    obtain ⟨x, hx⟩ := getN h2
    obtain ⟨y, hy⟩ := getN (show k < b.length by omega)
    (repeat (first | refine zI ?_ | refine zL ?_ | refine zC ?_ | refine yag ?_ | refine yae ?_ | refine zR ?_ | refine zD ?_ | refine zK ?_ | refine zB ?_ | refine zA ?_ | refine zS ?_ | refine zU ?_ | refine zV ?_ | refine zF ?_ | with_reducible refine yab ?_ | with_reducible refine yad ?_ | refine yaa ?_ | refine yac ?_ | refine yaf ?_ | refine zT ?_ | refine zE ?_ | refine zX ?_ | refine yci tok rfl rfl rfl (by omega) (yeq hx) rfl rfl ?_ | refine yci tok rfl rfl rfl (by omega) (yeq hy) rfl rfl ?_ | refine L_neqT (a := x) (b := y) rfl rfl rfl rfl ?_))
    refine yap rfl (fun h3 => ?_) (fun h3 => ?_)
    · have h3 : ¬ x = y := by intro e; subst e; simp at h3
      (repeat (first | refine zI ?_ | refine zL ?_ | refine zC ?_ | refine yag ?_ | refine yae ?_ | refine zR ?_ | refine zD ?_ | refine zK ?_ | refine zB ?_ | refine zA ?_ | refine zS ?_ | refine zU ?_ | refine zV ?_ | refine zF ?_ | with_reducible refine yab ?_ | with_reducible refine yad ?_ | refine yaa ?_ | refine yac ?_ | refine yaf ?_ | refine zT ?_ | refine zE ?_ | refine zX ?_))
      refine yas ?_; refine ⟨_, rfl, ?_⟩
      exact ybz (by rw [decide_eq_false]; intro e; subst e; rw [hx] at hy; exact h3 (Option.some.inj hy))
    · have h3 : x = y := by have h3 := h3; simp at h3; exact Prod.ext h3.1 h3.2
      (repeat (first | refine zI ?_ | refine zL ?_ | refine zC ?_ | refine yag ?_ | refine yae ?_ | refine zR ?_ | refine zD ?_ | refine zK ?_ | refine zB ?_ | refine zA ?_ | refine zS ?_ | refine zU ?_ | refine zV ?_ | refine zF ?_ | with_reducible refine yab ?_ | with_reducible refine yad ?_ | refine yaa ?_ | refine yac ?_ | refine yaf ?_ | refine zT ?_ | refine zE ?_ | refine zX ?_))
      refine rnd (k + 1) ⟨by omega, ?_⟩ (by omega) (by (repeat (first | exact ycg | refine yby rfl ?_))) yam
      subst h3
      rw [take_next hx, take_next hy, he]
  · have h2 : a.length ≤ k := by simpa using h2
    (repeat (first | refine zI ?_ | refine zL ?_ | refine zC ?_ | refine yag ?_ | refine yae ?_ | refine zR ?_ | refine zD ?_ | refine zK ?_ | refine zB ?_ | refine zA ?_ | refine zS ?_ | refine zU ?_ | refine zV ?_ | refine zF ?_ | with_reducible refine yab ?_ | with_reducible refine yad ?_ | refine yaa ?_ | refine yac ?_ | refine yaf ?_ | refine zT ?_ | refine zE ?_ | refine zX ?_))
    refine yas ?_; refine ⟨_, rfl, ?_⟩
    exact ybz (by rw [List.take_of_length_le h2, List.take_of_length_le (by omega)] at he; exact (decide_eq_true he).symm)
theorem lightE_con (e : List Tm) : Con Tryz.prog 14 [ybf e] (boolA (decide (e.length ≤ 250))) := by
  refine ycq Tryz.func14 rfl rfl Tryz.ntmps14 Tryz.results14 rfl rfl ?_
  (repeat (first | refine zI ?_ | refine zL ?_ | refine zC ?_ | refine yag ?_ | refine yae ?_ | refine zR ?_ | refine zD ?_ | refine zK ?_ | refine zB ?_ | refine zA ?_ | refine zS ?_ | refine zU ?_ | refine zV ?_ | refine zF ?_ | with_reducible refine yab ?_ | with_reducible refine yad ?_ | refine yaa ?_ | refine yac ?_ | refine yaf ?_ | refine zT ?_ | refine zE ?_ | refine zX ?_))
  refine yas ?_; refine ⟨_, rfl, ?_⟩
  exact ybz (by simp; omega)
def lightN (names : List Bs) : Bool := decide (names.length ≤ 10) && names.all fun w => decide (w.length ≤ 40)
theorem lightN_spec {names : List Bs} (h : lightN names = true) : names.length ≤ 10 ∧ ∀ w ∈ names, w.length ≤ 40 := by
  simp only [lightN, Bool.and_eq_true, decide_eq_true_eq, List.all_eq_true] at h
  exact h
theorem light06_con (names : List Bs) : Con Tryz.prog 9 [ybl names] (boolA (lightN names)) := by
  refine ycq Tryz.func9 rfl rfl Tryz.ntmps9 Tryz.results9 rfl rfl ?_
  (repeat (first | refine zI ?_ | refine zL ?_ | refine zC ?_ | refine yag ?_ | refine yae ?_ | refine zR ?_ | refine zD ?_ | refine zK ?_ | refine zB ?_ | refine zA ?_ | refine zS ?_ | refine zU ?_ | refine zV ?_ | refine zF ?_ | with_reducible refine yab ?_ | with_reducible refine yad ?_ | refine yaa ?_ | refine yac ?_ | refine yaf ?_ | refine zT ?_ | refine zE ?_ | refine zX ?_))
  refine yap rfl (fun h1 => ?_) (fun h1 => ?_)
  · have h1 : ¬ names.length ≤ 10 := by simp at h1; omega
    (repeat (first | refine zI ?_ | refine zL ?_ | refine zC ?_ | refine yag ?_ | refine yae ?_ | refine zR ?_ | refine zD ?_ | refine zK ?_ | refine zB ?_ | refine zA ?_ | refine zS ?_ | refine zU ?_ | refine zV ?_ | refine zF ?_ | with_reducible refine yab ?_ | with_reducible refine yad ?_ | refine yaa ?_ | refine yac ?_ | refine yaf ?_ | refine zT ?_ | refine zE ?_ | refine zX ?_))
    refine yas ?_; refine ⟨_, rfl, ?_⟩
    exact ybz (by simp [lightN, h1])
  have h1 : names.length ≤ 10 := by simp at h1; omega
  (repeat (first | refine zI ?_ | refine zL ?_ | refine zC ?_ | refine yag ?_ | refine yae ?_ | refine zR ?_ | refine zD ?_ | refine zK ?_ | refine zB ?_ | refine zA ?_ | refine zS ?_ | refine zU ?_ | refine zV ?_ | refine zF ?_ | with_reducible refine yab ?_ | with_reducible refine yad ?_ | refine yaa ?_ | refine yac ?_ | refine yaf ?_ | refine zT ?_ | refine zE ?_ | refine zX ?_))
  refine A_inv (α := Nat) (fun k => [(3, i64 k), (0, ybl names)]) (fun k => []) (fun k => names.length - k) (fun k => k ≤ names.length ∧ (names.take k).all (fun w => decide (w.length ≤ 40)) = true) 0 ⟨by omega, by simp⟩ (by (repeat (first | exact ycg | refine yby rfl ?_))) yam ?_
  rintro k ⟨hk, ha⟩
  (repeat (first | refine zI ?_ | refine zL ?_ | refine zC ?_ | refine yag ?_ | refine yae ?_ | refine zR ?_ | refine zD ?_ | refine zK ?_ | refine zB ?_ | refine zA ?_ | refine zS ?_ | refine zU ?_ | refine zV ?_ | refine zF ?_ | with_reducible refine yab ?_ | with_reducible refine yad ?_ | refine yaa ?_ | refine yac ?_ | refine yaf ?_ | refine zT ?_ | refine zE ?_ | refine zX ?_))
  refine yap rfl (fun h2 => ?_) (fun h2 => ?_)
  · have h2 : k < names.length := by simpa using h2
    obtain ⟨x, hx⟩ := getN h2
    (repeat (first | refine zI ?_ | refine zL ?_ | refine zC ?_ | refine yag ?_ | refine yae ?_ | refine zR ?_ | refine zD ?_ | refine zK ?_ | refine zB ?_ | refine zA ?_ | refine zS ?_ | refine zU ?_ | refine zV ?_ | refine zF ?_ | with_reducible refine yab ?_ | with_reducible refine yad ?_ | refine yaa ?_ | refine yac ?_ | refine yaf ?_ | refine zT ?_ | refine zE ?_ | refine zX ?_ | refine yci tok rfl rfl rfl (by omega) (yeq hx) rfl rfl ?_))
    refine yap rfl (fun h3 => ?_) (fun h3 => ?_)
    · have h3 : 40 < x.length := by have h4 := h3; simp [ybd] at h4; omega
      (repeat (first | refine zI ?_ | refine zL ?_ | refine zC ?_ | refine yag ?_ | refine yae ?_ | refine zR ?_ | refine zD ?_ | refine zK ?_ | refine zB ?_ | refine zA ?_ | refine zS ?_ | refine zU ?_ | refine zV ?_ | refine zF ?_ | with_reducible refine yab ?_ | with_reducible refine yad ?_ | refine yaa ?_ | refine yac ?_ | refine yaf ?_ | refine zT ?_ | refine zE ?_ | refine zX ?_))
      refine yas ?_; refine ⟨_, rfl, ?_⟩
      refine ybz ?_
      have : names.all (fun w => decide (w.length ≤ 40)) = false := by
        rw [List.all_eq_false]
        exact ⟨x, List.mem_of_getElem? hx, by simp; omega⟩
      simp [lightN, this]
    · have h3 : x.length ≤ 40 := by have h4 := h3; simp [ybd] at h4; omega
      (repeat (first | refine zI ?_ | refine zL ?_ | refine zC ?_ | refine yag ?_ | refine yae ?_ | refine zR ?_ | refine zD ?_ | refine zK ?_ | refine zB ?_ | refine zA ?_ | refine zS ?_ | refine zU ?_ | refine zV ?_ | refine zF ?_ | with_reducible refine yab ?_ | with_reducible refine yad ?_ | refine yaa ?_ | refine yac ?_ | refine yaf ?_ | refine zT ?_ | refine zE ?_ | refine zX ?_))
      refine rnd (k + 1) ⟨by omega, ?_⟩ (by omega) (by (repeat (first | exact ycg | refine yby rfl ?_))) yam
      rw [take_next hx, List.all_append, ha]
      simp [h3]
  · have h2 : names.length ≤ k := by simpa using h2
    (repeat (first | refine zI ?_ | refine zL ?_ | refine zC ?_ | refine yag ?_ | refine yae ?_ | refine zR ?_ | refine zD ?_ | refine zK ?_ | refine zB ?_ | refine zA ?_ | refine zS ?_ | refine zU ?_ | refine zV ?_ | refine zF ?_ | with_reducible refine yab ?_ | with_reducible refine yad ?_ | refine yaa ?_ | refine yac ?_ | refine yaf ?_ | refine zT ?_ | refine zE ?_ | refine zX ?_))
    refine yas ?_; refine ⟨_, rfl, ?_⟩
    exact ybz (by rw [List.take_of_length_le h2] at ha; simp [lightN, ha, h1])
def fairE (e : List Tm) (names : List Bs) : Bool := (decide (e.length ≤ 250) && lightN names) && yek nmW names && ydc e names.length
theorem fair06_con (e : List Tm) (names : List Bs) : Con Tryz.prog 17 [ybf e, ybl names] (boolA (fairE e names)) := by
  refine ycq Tryz.func17 rfl rfl Tryz.ntmps17 Tryz.results17 rfl rfl ?_
  (repeat (first | refine zI ?_ | refine zL ?_ | refine zC ?_ | refine yag ?_ | refine yae ?_ | refine zR ?_ | refine zD ?_ | refine zK ?_ | refine zB ?_ | refine zA ?_ | refine zS ?_ | refine zU ?_ | refine zV ?_ | refine zF ?_ | with_reducible refine yab ?_ | with_reducible refine yad ?_ | refine yaa ?_ | refine yac ?_ | refine yaf ?_ | refine zT ?_ | refine zE ?_ | refine zX ?_ | refine yao rfl rfl (lightE_con e) rfl rfl ?_))
  refine ydw 7 rfl (fun h1 => ?_) (fun h1 => ?_)
  · (repeat (first | refine zI ?_ | refine zL ?_ | refine zC ?_ | refine yag ?_ | refine yae ?_ | refine zR ?_ | refine zD ?_ | refine zK ?_ | refine zB ?_ | refine zA ?_ | refine zS ?_ | refine zU ?_ | refine zV ?_ | refine zF ?_ | with_reducible refine yab ?_ | with_reducible refine yad ?_ | refine yaa ?_ | refine yac ?_ | refine yaf ?_ | refine zT ?_ | refine zE ?_ | refine zX ?_ | refine yao rfl rfl (light06_con names) rfl rfl ?_))
    have h1' : e.length ≤ 250 := by simpa using h1
    refine ydw 11 rfl (fun h2 => ?_) (fun h2 => ?_)
    · obtain ⟨l1, l2⟩ := lightN_spec h2
      (repeat (first | refine zI ?_ | refine zL ?_ | refine zC ?_ | refine yag ?_ | refine yae ?_ | refine zR ?_ | refine zD ?_ | refine zK ?_ | refine zB ?_ | refine zA ?_ | refine zS ?_ | refine zU ?_ | refine zV ?_ | refine zF ?_ | with_reducible refine yab ?_ | with_reducible refine yad ?_ | refine yaa ?_ | refine yac ?_ | refine yaf ?_ | refine zT ?_ | refine zE ?_ | refine zX ?_ | refine yao rfl rfl (rgood_con names (by omega) (fun w hw => by have := l2 w hw; omega)) rfl rfl ?_))
      refine ydw 15 rfl (fun h3 => ?_) (fun h3 => ?_)
      · (repeat (first | refine zI ?_ | refine zL ?_ | refine zC ?_ | refine yag ?_ | refine yae ?_ | refine zR ?_ | refine zD ?_ | refine zK ?_ | refine zB ?_ | refine zA ?_ | refine zS ?_ | refine zU ?_ | refine zV ?_ | refine zF ?_ | with_reducible refine yab ?_ | with_reducible refine yad ?_ | refine yaa ?_ | refine yac ?_ | refine yaf ?_ | refine zT ?_ | refine zE ?_ | refine zX ?_ | refine yao rfl rfl (xrvalid_con e names.length (by omega)) rfl rfl ?_))
        refine yas ?_; refine ⟨_, rfl, ?_⟩
        exact ybz (by simp [fairE, h1', h2, h3])
      · (repeat (first | refine zI ?_ | refine zL ?_ | refine zC ?_ | refine yag ?_ | refine yae ?_ | refine zR ?_ | refine zD ?_ | refine zK ?_ | refine zB ?_ | refine zA ?_ | refine zS ?_ | refine zU ?_ | refine zV ?_ | refine zF ?_ | with_reducible refine yab ?_ | with_reducible refine yad ?_ | refine yaa ?_ | refine yac ?_ | refine yaf ?_ | refine zT ?_ | refine zE ?_ | refine zX ?_))
        refine yas ?_; refine ⟨_, rfl, ?_⟩
        exact ybz (by simp [fairE, h3])
    · (repeat (first | refine zI ?_ | refine zL ?_ | refine zC ?_ | refine yag ?_ | refine yae ?_ | refine zR ?_ | refine zD ?_ | refine zK ?_ | refine zB ?_ | refine zA ?_ | refine zS ?_ | refine zU ?_ | refine zV ?_ | refine zF ?_ | with_reducible refine yab ?_ | with_reducible refine yad ?_ | refine yaa ?_ | refine yac ?_ | refine yaf ?_ | refine zT ?_ | refine zE ?_ | refine zX ?_))
      refine yas ?_; refine ⟨_, rfl, ?_⟩
      exact ybz (by simp [fairE, h2])
  · (repeat (first | refine zI ?_ | refine zL ?_ | refine zC ?_ | refine yag ?_ | refine yae ?_ | refine zR ?_ | refine zD ?_ | refine zK ?_ | refine zB ?_ | refine zA ?_ | refine zS ?_ | refine zU ?_ | refine zV ?_ | refine zF ?_ | with_reducible refine yab ?_ | with_reducible refine yad ?_ | refine yaa ?_ | refine yac ?_ | refine yaf ?_ | refine zT ?_ | refine zE ?_ | refine zX ?_))
    refine yas ?_; refine ⟨_, rfl, ?_⟩
    exact ybz (by simp [fairE, h1])
def awT : Bs := [109, 105, 110, 40, 113, 46, 100, 41, 43, 49]
def awE : List Tm := [(33, 0), (24, 0), (12, 0), (1, 1)]
def awF : Bs := [109, 105, 110, 40, 113, 46, 100, 41, 32, 43, 32, 49]
theorem aw_f : formatX nmW [[100], [112]] awE = (awF, 0) := by kernel_rfl
theorem aw_p : yfq nmW [[100], [112]] (ba awT) = (awE, 0, 0) := by kernel_rfl
theorem aw_pcon : Con Tryz.prog 11 [strA (ba awT), ybl [[100], [112]]] (parseA (awE, 0, 0)) := by
  rw [← aw_p]
  exact parse_con _ _ (by decide) (by decide) (by decide)
theorem aw_fcon : Con Tryz.prog 15 [ybf awE, ybl [[100], [112]]] (formatA (awF, 0)) := by
  rw [← aw_f]
  exact format_con _ _ (by decide) (by decide) (by decide)
theorem ydp : Con Tryz.prog 10 [] (boolA true) := by
  refine ycq Tryz.func10 rfl rfl Tryz.ntmps10 Tryz.results10 rfl rfl ?_
  (repeat (first | refine zI ?_ | refine zL ?_ | refine zC ?_ | refine yag ?_ | refine yae ?_ | refine zR ?_ | refine zD ?_ | refine zK ?_ | refine zB ?_ | refine zA ?_ | refine zS ?_ | refine zU ?_ | refine zV ?_ | refine zF ?_ | with_reducible refine yab ?_ | with_reducible refine yad ?_ | refine yaa ?_ | refine yac ?_ | refine yaf ?_ | refine zT ?_ | refine zE ?_ | refine zX ?_ | refine yao rfl rfl aw_pcon rfl rfl ?_ | refine yao rfl rfl aw_fcon rfl rfl ?_))
  refine L_true 20 rfl (by simp) ?_
  (repeat (first | refine zI ?_ | refine zL ?_ | refine zC ?_ | refine yag ?_ | refine yae ?_ | refine zR ?_ | refine zD ?_ | refine zK ?_ | refine zB ?_ | refine zA ?_ | refine zS ?_ | refine zU ?_ | refine zV ?_ | refine zF ?_ | with_reducible refine yab ?_ | with_reducible refine yad ?_ | refine yaa ?_ | refine yac ?_ | refine yaf ?_ | refine zT ?_ | refine zE ?_ | refine zX ?_))
  refine L_true 24 rfl (by simp) ?_
  (repeat (first | refine zI ?_ | refine zL ?_ | refine zC ?_ | refine yag ?_ | refine yae ?_ | refine zR ?_ | refine zD ?_ | refine zK ?_ | refine zB ?_ | refine zA ?_ | refine zS ?_ | refine zU ?_ | refine zV ?_ | refine zF ?_ | with_reducible refine yab ?_ | with_reducible refine yad ?_ | refine yaa ?_ | refine yac ?_ | refine yaf ?_ | refine zT ?_ | refine zE ?_ | refine zX ?_))
  refine L_true 29 rfl (by simp [awE]) ?_
  (repeat (first | refine zI ?_ | refine zL ?_ | refine zC ?_ | refine yag ?_ | refine yae ?_ | refine zR ?_ | refine zD ?_ | refine zK ?_ | refine zB ?_ | refine zA ?_ | refine zS ?_ | refine zU ?_ | refine zV ?_ | refine zF ?_ | with_reducible refine yab ?_ | with_reducible refine yad ?_ | refine yaa ?_ | refine yac ?_ | refine yaf ?_ | refine zT ?_ | refine zE ?_ | refine zX ?_))
  refine yci tok rfl rfl rfl (by decide) (row := [i64 33, i64 0]) rfl rfl rfl ?_
  (repeat (first | refine zI ?_ | refine zL ?_ | refine zC ?_ | refine yag ?_ | refine yae ?_ | refine zR ?_ | refine zD ?_ | refine zK ?_ | refine zB ?_ | refine zA ?_ | refine zS ?_ | refine zU ?_ | refine zV ?_ | refine zF ?_ | with_reducible refine yab ?_ | with_reducible refine yad ?_ | refine yaa ?_ | refine yac ?_ | refine yaf ?_ | refine zT ?_ | refine zE ?_ | refine zX ?_))
  refine yas ?_; refine ⟨_, rfl, ?_⟩
  exact ybz (beq_self_eq_true (ba awF).toList)
end Go.Proofs.YtcpgpiabeimefaaGreatDoor
