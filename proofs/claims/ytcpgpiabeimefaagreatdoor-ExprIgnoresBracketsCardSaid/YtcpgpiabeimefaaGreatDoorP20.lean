/- Part 20 of the texts under ExprParses,ExprIsStable,ExprReadsBack,ExprIgnoresBrackets,ExprFormats,ExprBracketsEverything: joined, with what it needs alone. -/
import Derived.Test.YtcpgpiabeimefaaGreatDoorRows
import Derived.Lib.LaidTab
import Derived.Deep.DeepHandedRow
import Derived.LaidSub
import Derived.Test.YtcpgpiabeimefaaGreatDoorP1
import Derived.Test.YtcpgpiabeimefaaGreatDoorP13
import Derived.Test.YtcpgpiabeimefaaGreatDoorP15
import Derived.Test.YtcpgpiabeimefaaGreatDoorP18
import Derived.Test.YtcpgpiabeimefaaGreatDoorP19
set_option linter.unusedVariables false
set_option maxRecDepth 100000
set_option maxHeartbeats 4000000
namespace Go.Proofs.YtcpgpiabeimefaaGreatDoor
open Go.RowKit
theorem recovered_nil : Con Tryz.prog 44 [.v .nilIface] (.tup [.agg [i64 0, i64 0], boolA false]) := by
  refine con_ofT tok Tryz.func44 rfl rfl Tryz.ntmps44 Tryz.results44 rfl rfl ?_
  (repeat (first | refine zI ?_ | refine zL ?_ | refine zC ?_ | refine yag ?_ | refine yaf ?_ | refine zR ?_ | refine zD ?_ | refine zK ?_ | refine zB ?_ | refine zA ?_ | refine zS ?_ | refine zU ?_ | refine zV ?_ | refine zF ?_ | with_reducible refine yab ?_ | with_reducible refine yad ?_ | refine yaa ?_ | refine yac ?_ | refine yae ?_ | refine zT ?_ | refine zE ?_ | refine zX ?_ | refine yaw (yield_eqNilYes (by kernel_rfl) rfl rfl) rfl rfl ?_))
  refine yar ?_; refine ⟨_, rfl, ?_⟩
  exact Frz.pure
theorem recovered_fail (p e : Int) : Con Tryz.prog 44 [.v (failV p e)] (.tup [.agg [i64 p, i64 e], boolA true]) := by
  refine con_ofT tok Tryz.func44 rfl rfl Tryz.ntmps44 Tryz.results44 rfl rfl ?_
  (repeat (first | refine zI ?_ | refine zL ?_ | refine zC ?_ | refine yag ?_ | refine yaf ?_ | refine zR ?_ | refine zD ?_ | refine zK ?_ | refine zB ?_ | refine zA ?_ | refine zS ?_ | refine zU ?_ | refine zV ?_ | refine zF ?_ | with_reducible refine yab ?_ | with_reducible refine yad ?_ | refine yaa ?_ | refine yac ?_ | refine yae ?_ | refine zT ?_ | refine zE ?_ | refine zX ?_ | refine yaw (yield_eqNilNo (by kernel_rfl) rfl rfl) rfl rfl ?_ | refine yaw (yield_assertYes (y := .agg [i64 p, i64 e]) Tryz.underlying72 rfl rfl rfl) rfl rfl ?_))
  refine yar ?_; refine ⟨_, rfl, ?_⟩
  exact Frz.pure
def catH (p e : Int) : List (Nat × Option LObj) := [(1002, some (.cells [i64 p])), (1003, some (.cells [i64 e]))]
theorem cat_cl {p e p' e' : Int} : ∀ id o, yaq (catH p' e') id = some o → isC o = true → 14 ≤ id ∧ ∃ o', yaq (catH p e) id = some o' ∧ isC o' = true := by
  intro id o ho hc
  simp only [catH, yaq] at ho ⊢
  cases h1 : Nat.beq id 1002 with
  | true => have := Nat.eq_of_beq_eq_true h1; exact ⟨by omega, _, rfl, rfl⟩
  | false =>
    simp only [h1] at ho
    cases h2 : Nat.beq id 1003 with
    | true => have := Nat.eq_of_beq_eq_true h2; exact ⟨by omega, _, rfl, rfl⟩
    | false => simp only [h2] at ho; cases ho
theorem closure_idle (p e : Int) : ConK (KD Tryz.prog 43 .returning .returning) [.lp 1002 0, .lp 1003 0] (yaq (catH p e)) (.tup []) (yaq (catH p e)) := by
  refine conKD_recover (lf := lfT) tok Tryz.func43 rfl Tryz.ntmps43 Tryz.results43 rfl cat_cl rfl rfl rfl (by decide) rfl .idle ?_
  show Lex _ _ _ _ _ _ (S _ _)
  (repeat (first | refine zI ?_ | refine zL ?_ | refine zC ?_ | refine yag ?_ | refine yaf ?_ | refine zR ?_ | refine zD ?_ | refine zK ?_ | refine zB ?_ | refine zA ?_ | refine zS ?_ | refine zU ?_ | refine zV ?_ | refine zF ?_ | with_reducible refine yab ?_ | with_reducible refine yad ?_ | refine yaa ?_ | refine yac ?_ | refine yae ?_ | refine zT ?_ | refine zE ?_ | refine zX ?_ | refine yak rfl rfl recovered_nil rfl rfl ?_))
  exact ⟨_, rfl, yav _, yap (yai rfl (yai rfl yan))⟩
theorem closure_caught (p e p0 e0 : Int) : ConK (KD Tryz.prog 43 (.panicking (failP p e)) (.panicking [{ v := failV p e, recovered := true }])) [.lp 1002 0, .lp 1003 0] (yaq (catH p0 e0)) (.tup []) (yaq (catH p e)) := by
  refine conKD_recover (lf := lfT) tok Tryz.func43 rfl Tryz.ntmps43 Tryz.results43 rfl cat_cl rfl rfl rfl (by decide) rfl (.caught (failV p e) []) ?_
  show Lex _ _ _ _ _ _ (S _ _)
  (repeat (first | refine zI ?_ | refine zL ?_ | refine zC ?_ | refine yag ?_ | refine yaf ?_ | refine zR ?_ | refine zK ?_ | refine zB ?_ | refine zA ?_ | refine zS ?_ | refine zU ?_ | refine zV ?_ | refine zF ?_ | with_reducible refine yab ?_ | with_reducible refine yad ?_ | refine yaa ?_ | refine yac ?_ | refine yae ?_ | refine zT ?_ | refine zE ?_ | refine zX ?_ | refine yak rfl rfl (recovered_fail p e) rfl rfl ?_))
  refine A_region_any (lf := lf0) mixed rfl ?_
  refine any_pre [0, 1] 4 (yfi rfl (yfi rfl numOk_nil)) rfl (by kernel_rfl) ?_
  (repeat (first | refine zI ?_ | refine zL ?_ | refine zC ?_ | refine zK ?_ | refine zB ?_ | refine zA ?_ | refine zS ?_ | refine zU ?_ | refine zV ?_ | refine zF ?_ | refine zX ?_ | refine yag ?_))
  refine any_fork [2, 4] 3 rfl (by kernel_rfl) (by simp) ⟨⟨_, rfl, ?_⟩, ⟨_, rfl, ?_⟩, trivial⟩
  · (repeat (first | refine zI ?_ | refine zL ?_ | refine zC ?_ | refine zK ?_ | refine zB ?_ | refine zA ?_ | refine zS ?_ | refine zU ?_ | refine zV ?_ | refine zF ?_ | refine zX ?_ | refine yag ?_))
    refine any_fork [3, 4] 2 rfl (by kernel_rfl) (by simp) ⟨⟨_, rfl, ?_⟩, ⟨_, rfl, ?_⟩, trivial⟩
    · (repeat (first | refine zI ?_ | refine zL ?_ | refine zC ?_ | refine zK ?_ | refine zB ?_ | refine zA ?_ | refine zS ?_ | refine zU ?_ | refine zV ?_ | refine zF ?_ | refine zX ?_ | refine yag ?_))
      refine any_rest [4, 5] (yfi rfl (yfi rfl numOk_nil)) rfl (by kernel_rfl) ?_
      (repeat (first | refine zI ?_ | refine zL ?_ | refine zC ?_ | refine zK ?_ | refine zB ?_ | refine zA ?_ | refine zS ?_ | refine zU ?_ | refine zV ?_ | refine zF ?_ | refine zX ?_ | refine yag ?_))
      exact ⟨_, rfl, yav _, yap (yai rfl (yai rfl yan))⟩
    · (repeat (first | refine zI ?_ | refine zL ?_ | refine zC ?_ | refine zK ?_ | refine zB ?_ | refine zA ?_ | refine zS ?_ | refine zU ?_ | refine zV ?_ | refine zF ?_ | refine zX ?_ | refine yag ?_))
      refine any_rest [3, 5] (yfi rfl (yfi rfl numOk_nil)) rfl (by kernel_rfl) ?_
      (repeat (first | refine zI ?_ | refine zL ?_ | refine zC ?_ | refine zK ?_ | refine zB ?_ | refine zA ?_ | refine zS ?_ | refine zU ?_ | refine zV ?_ | refine zF ?_ | refine zX ?_ | refine yag ?_))
      exact ⟨_, rfl, yav _, yap (yai rfl (yai rfl yan))⟩
  · (repeat (first | refine zI ?_ | refine zL ?_ | refine zC ?_ | refine zK ?_ | refine zB ?_ | refine zA ?_ | refine zS ?_ | refine zU ?_ | refine zV ?_ | refine zF ?_ | refine zX ?_ | refine yag ?_))
    refine any_rest [2, 3, 5] (yfi rfl (yfi rfl (yfi rfl numOk_nil))) rfl (by kernel_rfl) ?_
    (repeat (first | refine zI ?_ | refine zL ?_ | refine zC ?_ | refine zK ?_ | refine zB ?_ | refine zA ?_ | refine zS ?_ | refine zU ?_ | refine zV ?_ | refine zF ?_ | refine zX ?_ | refine yag ?_))
    exact ⟨_, rfl, yav _, yap (yai rfl (yai rfl yan))⟩
section
variable {g : FuncId} {caps : List AV} {hs hs' : List (Nat × Option LObj)}
structure CatMem (g : FuncId) (caps : List AV) (hs hs' : List (Nat × Option LObj)) : Prop where
  keys : ∀ i ∈ keysH (hs ++ hs'), 1000 ≤ i
  caps : ∀ i, i < 1000 → ment.mentL i caps = false
  fresh : ∀ i, i < 1000 → yev i hs = true
  fresh2 : ∀ i, i < 1000 → yev i hs' = true
  only : ∀ id o, yaq hs' id = some o → onlyO (keysH (hs ++ hs')) o = true
theorem ahead_cat {p e : Int} (h : ∀ i ∈ keysH hs, 1000 ≤ i) : Ahead [(3, some (.cells [i64 e])), (2, some (.cells [i64 p]))] hs := by
  refine ⟨fun i hi hm => ?_, fun j ob hj i hi => ?_⟩
  · have := h i hi
    simp [keysH] at hm
    omega
  · have : ob = .cells [i64 e] ∨ ob = .cells [i64 p] := by
      simp only [yaq] at hj
      split at hj
      · cases hj; exact .inl rfl
      · split at hj
        · cases hj; exact .inr rfl
        · cases hj
    rcases this with rfl | rfl <;> rfl
theorem cat_lt {i : Nat} (h : i ∈ ydu [(1002, 2), (1003, 3)]) : i < 1000 := by simp [ydu] at h; omega
theorem catch_ok (hc : ConM Tryz.prog g caps (yaq hs) (.tup []) (yaq hs')) (hm : CatMem g caps hs hs') : ConM Tryz.prog 21 [.fn g caps] (yaq hs) (.tup [i64 0, i64 0]) (yaq hs') := by
  refine conM_ofD tok Tryz.func21 rfl rfl Tryz.ntmps21 Tryz.results21 rfl (fun id o ho hi => ⟨?_, hc.2.1 id o ho hi⟩) ?_
  · have := hm.keys id (by simp only [keysH, List.map_append, List.mem_append]; exact .inr (yex (by rw [ho]; rfl)))
    omega
  show AF _ _ _ _ (S _ _)
  have f1 : yfc 2 (enumF 0 [AV.fn g caps]) = true := by
    show yfc 2 [(0, .fn g caps)] = true
    simp [yfc, ment, hm.caps 2 (by omega)]
  have f2 : yfc 3 ((2, .lp 2 0) :: enumF 0 [AV.fn g caps]) = true := by
    show yfc 3 [(2, .lp 2 0), (0, .fn g caps)] = true
    simp [yfc, ment, hm.caps 3 (by omega)]
  refine yfl (yfa ?_)
  refine yah (lf := lfT) rfl ?_
  refine zA (h1 := f1) (h2 := hm.fresh 2 (by omega)) ?_
  refine zA (h1 := f2) (h2 := fresh_c rfl rfl (hm.fresh 3 (by omega))) ?_
  refine yag ?_
  show AF _ _ _ _ (S _ _)
  refine yfl ?_
  refine AF_region_defer (lf := lfT) 1 rfl rfl rfl rfl rfl rfl (fun d h => by cases h) ?_
  refine zF ?_
  refine yag ⟨rfl, _, _, _, ⟨_, Tryz.func43, rfl, rfl⟩, rfl, rfl, fun x hx => ?_, ?_⟩
  · have : ∀ y, ybk ((4, .fn 43 [.lp 2 0, .lp 3 0]) :: (3, .lp 3 0) :: (2, .lp 2 0) :: enumF 0 [AV.fn g caps]) x ≠ some y := fun y hy => by
      simp only [ybk, enumF] at hy
      (repeat' split at hy)
      all_goals first | (rename_i hb; have := Nat.eq_of_beq_eq_true hb; omega) | cases hy
    cases hq : ybk ((4, .fn 43 [.lp 2 0, .lp 3 0]) :: (3, .lp 3 0) :: (2, .lp 2 0) :: enumF 0 [AV.fn g caps]) x with
    | none => exact hq
    | some y => exact absurd hq (this y)
  show Lex _ _ _ _ _ [] _
  refine .nil ?_
  show A _ _ _ _ _
  refine A_weak (s' := S [(0, .fn g caps), (2, .lp 2 0), (3, .lp 3 0), (1000000, .lp 2 0), (1000001, .lp 3 0)] _) ?_ ⟨subF_look ⟨rfl, rfl, rfl, rfl, rfl, trivial⟩, fun id x h => h⟩
  have hk0 := hm.keys
  have hbig : ∀ i, i < 1000 → ∀ j ∈ keysH (hs ++ hs'), Nat.beq i j = false := fun i hi j hj => beq_ne (by have := hk0 j hj; omega)
  refine yaf ?_
  refine yah (lf := lfT) rfl ?_
  refine zC ?_
  refine L_callI (pre := [_, _]) (xs := []) (t' := [(2, .lp 2 0), (3, .lp 3 0), (1000000, .lp 2 0), (1000001, .lp 3 0)]) hc rfl rfl rfl (ahead_cat hk0) hm.only (fun x y hy => ⟨subT_look (by (repeat (first | exact ycd | refine ybn rfl ?_))) x y hy, fun i hi => ?_⟩) rfl rfl rfl ?_
  · simp only [ybk] at hy
    (repeat' split at hy)
    all_goals first | (cases hy; exact hbig _ (by omega) i hi) | cases hy
  (repeat (first | refine zI ?_ | refine zL ?_ | refine zC ?_ | refine yag ?_ | refine yaf ?_ | refine zR ?_ | refine zD ?_ | refine zK ?_ | refine zB ?_ | refine zA ?_ | refine zS ?_ | refine zU ?_ | refine zV ?_ | refine zF ?_ | with_reducible refine yab ?_ | with_reducible refine yad ?_ | refine yaa ?_ | refine yac ?_ | refine yae ?_ | refine zT ?_ | refine zE ?_ | refine zX ?_))
  refine yar ?_
  refine ends_defer (h' := hs') (args0 := [.lp 1002 0, .lp 1003 0]) [(1002, 2), (1003, 3)] rfl rfl rfl ⟨rfl, rfl, trivial⟩ (closure_idle 0 0) rfl rfl rfl rfl (yai rfl (yai rfl yan)) rfl (fun j ob hj hob => ⟨fun i hi => (freshH_look (hm.fresh2 i (cat_lt hi))).2 j ob hob, ob, ?_, .inl rfl⟩) rfl (yav _) (fun id o ho => ?_)
  · refine (hlook_apd (f := [(3, _), (2, _), (3, _), (2, _)]) ?_).trans hob
    simp [keysH, ydu] at hj ⊢
    omega
  · refine (hlook_apd (f := backH _ _ _) ?_).trans ho
    have := hk0 id (by simp only [keysH, List.map_append, List.mem_append]; exact .inr (yex (by rw [ho]; rfl)))
    simp [keysH, backH]
    omega
theorem catch_bad {p e : Int} (hc : ConP Tryz.prog g caps (yaq hs) (failP p e)) (hm : CatMem g caps hs []) : ConM Tryz.prog 21 [.fn g caps] (yaq hs) (.tup [i64 p, i64 e]) (yaq []) := by
  refine conM_ofD tok Tryz.func21 rfl rfl Tryz.ntmps21 Tryz.results21 rfl (fun id o ho hi => by cases ho) ?_
  show AF _ _ _ _ (S _ _)
  have f1 : yfc 2 (enumF 0 [AV.fn g caps]) = true := by
    show yfc 2 [(0, .fn g caps)] = true
    simp [yfc, ment, hm.caps 2 (by omega)]
  have f2 : yfc 3 ((2, .lp 2 0) :: enumF 0 [AV.fn g caps]) = true := by
    show yfc 3 [(2, .lp 2 0), (0, .fn g caps)] = true
    simp [yfc, ment, hm.caps 3 (by omega)]
  refine yfl (yfa ?_)
  refine yah (lf := lfT) rfl ?_
  refine zA (h1 := f1) (h2 := hm.fresh 2 (by omega)) ?_
  refine zA (h1 := f2) (h2 := fresh_c rfl rfl (hm.fresh 3 (by omega))) ?_
  refine yag ?_
  show AF _ _ _ _ (S _ _)
  refine yfl ?_
  refine AF_region_defer (lf := lfT) 1 rfl rfl rfl rfl rfl rfl (fun d h => by cases h) ?_
  refine zF ?_
  refine yag ⟨rfl, _, _, _, ⟨_, Tryz.func43, rfl, rfl⟩, rfl, rfl, fun x hx => ?_, ?_⟩
  · have : ∀ y, ybk ((4, .fn 43 [.lp 2 0, .lp 3 0]) :: (3, .lp 3 0) :: (2, .lp 2 0) :: enumF 0 [AV.fn g caps]) x ≠ some y := fun y hy => by
      simp only [ybk, enumF] at hy
      (repeat' split at hy)
      all_goals first | (rename_i hb; have := Nat.eq_of_beq_eq_true hb; omega) | cases hy
    cases hq : ybk ((4, .fn 43 [.lp 2 0, .lp 3 0]) :: (3, .lp 3 0) :: (2, .lp 2 0) :: enumF 0 [AV.fn g caps]) x with
    | none => exact hq
    | some y => exact absurd hq (this y)
  show Lex _ _ _ _ _ [] _
  refine .nil ?_
  show A _ _ _ _ _
  refine A_weak (s' := S [(0, .fn g caps), (2, .lp 2 0), (3, .lp 3 0), (1000000, .lp 2 0), (1000001, .lp 3 0)] _) ?_ ⟨subF_look ⟨rfl, rfl, rfl, rfl, rfl, trivial⟩, fun id x h => h⟩
  have hk0 := hm.keys
  rw [List.append_nil] at hk0
  refine yaf ?_
  refine ybd (lf := lfT) 1 rfl rfl rfl ?_
  refine zC ?_
  refine yag ⟨rfl, ?_⟩
  refine D_callI (pre := [_, _]) (xs := []) (t' := [(2, .lp 2 0), (3, .lp 3 0), (1000000, .lp 2 0), (1000001, .lp 3 0)]) hc rfl rfl (ahead_cat hk0) (by (repeat (first | exact ycd | refine ybn rfl ?_))) ?_
  refine ends_defer (h' := []) (args0 := [.lp 1002 0, .lp 1003 0]) [(1002, 2), (1003, 3)] rfl rfl rfl ⟨rfl, rfl, trivial⟩ (closure_caught p e 0 0) rfl rfl rfl rfl (yai rfl (yai rfl yan)) rfl (fun j ob hj hob => by cases hob) rfl (yav _) (fun id o ho => by cases ho)
end
end Go.Proofs.YtcpgpiabeimefaaGreatDoor
set_option linter.unusedVariables false
set_option maxRecDepth 100000
set_option maxHeartbeats 4000000
namespace Go.Proofs.YtcpgpiabeimefaaGreatDoor
open Go.RowKit
theorem tokIn_scan {s : ByteArray} {ts : List Tok} (h : scanF s = .ok ts) : ydl s ts := by
  intro t ht
  obtain ⟨h1, h2, h3, h4, _⟩ := (good_of s ts h).mem t ht
  refine ⟨h3, h4, fun hn => ?_⟩
  obtain ⟨_, _, c, x, hc, hl⟩ := (nmW_spec hn).1
  simp only [pwT] at hc
  have : ∃ r, yal s t.from_ = c :: r := by
    cases hb : yal s t.from_ with
    | nil => rw [hb] at hc; simp at hc
    | cons d r =>
      rw [hb] at hc
      obtain ⟨k, hk⟩ : ∃ k, t.to - t.from_ = k + 1 := ⟨t.to - t.from_ - 1, by omega⟩
      rw [hk] at hc
      simp only [List.take_succ_cons, List.cons.injEq] at hc
      rw [hc.1]
      exact ⟨r, rfl⟩
  obtain ⟨r, hr⟩ := this
  rw [hr] at h2
  simp only [tokL, hl, if_true] at h2
  split at h2
  · cases h2
  · simp only [Except.ok.injEq, Prod.mk.injEq] at h2
    exact h2.1.symm
section
variable {s : ByteArray} {ts : List Tok} {names : List Bs} {us : List Value}
def p1H (s : ByteArray) (ts : List Tok) (names : List Bs) (x : AV) : List (Nat × Option LObj) := [(1001, some (rdO s ts names [])), (1004, some (.cells [x]))]
theorem p1_cl {ts' : List Tok} {x y : AV} : ∀ id o, yaq (p1H s ts' names y) id = some o → isC o = true → 6 ≤ id ∧ ∃ o', yaq (p1H s ts names x) id = some o' ∧ isC o' = true := by
  intro id o ho hc
  simp only [p1H, yaq] at ho ⊢
  cases h1 : Nat.beq id 1001 with
  | true => have := Nat.eq_of_beq_eq_true h1; exact ⟨by omega, _, rfl, rfl⟩
  | false =>
    simp only [h1] at ho
    cases h2 : Nat.beq id 1004 with
    | true => have := Nat.eq_of_beq_eq_true h2; exact ⟨by omega, _, rfl, rfl⟩
    | false => simp only [h2] at ho; cases ho
theorem p1_ok {x : List Tm} (h : ydl s ts) (hr : RdRes 23 [] s names [] ts (.ok x [])) : ConM Tryz.prog 22 [.lp 1001 0, .lp 1004 0] (yaq (p1H s ts names (.v (.slice none 0 0)))) (.tup []) (yaq (p1H s [] names (yay x))) := by
  have c1 := rd_ok (ts1 := []) hr (List.nil_suffix)
  refine yaz tok Tryz.func22 rfl rfl Tryz.ntmps22 Tryz.results22 rfl p1_cl ?_
  show A _ _ _ _ (S _ _)
  (repeat (first | refine zI ?_ | refine zL ?_ | refine zC ?_ | refine yag ?_ | refine yaf ?_ | refine zR ?_ | refine zD ?_ | refine zK ?_ | refine zB ?_ | refine zA ?_ | refine zS ?_ | refine zU ?_ | refine zV ?_ | refine zF ?_ | with_reducible refine yab ?_ | with_reducible refine yad ?_ | refine yaa ?_ | refine yac ?_ | refine yae ?_ | refine zT ?_ | refine zE ?_ | refine zX ?_ | refine ycr 1001 c1 rfl rfl rfl rfl rfl rfl rfl rfl rfl rfl ?_ | refine ycr 1001 (done_con (ts := [])) rfl rfl rfl rfl rfl rfl rfl rfl rfl rfl ?_))
  exact ⟨_, rfl, yav _, yap (yai rfl (yai rfl yan))⟩
theorem p1_left {x : List Tm} {ts1 : List Tok} (h : ydl s ts) (hs : ts1 <:+ ts) (hne : ts1 ≠ []) (hr : RdRes 23 [] s names [] ts (.ok x (ts1.map (pwT s)))) : ConP Tryz.prog 22 [.lp 1001 0, .lp 1004 0] (yaq (p1H s ts names (.v (.slice none 0 0)))) (failP (yez s ts1) 4) := by
  have c1 := rd_ok hr hs
  refine conP_of Tryz.func22 rfl rfl Tryz.ntmps22 rfl ?_
  show A _ _ _ _ (S _ _)
  (repeat (first | with_reducible refine yad ?_ | with_reducible refine yab ?_ | refine yac ?_ | refine yaf ?_ | refine yaa ?_)); refine yah (lf := lfT) rfl ?_
  (repeat (first | refine zI ?_ | refine zL ?_ | refine zC ?_ | refine zK ?_ | refine zB ?_ | refine zA ?_ | refine zS ?_ | refine zU ?_ | refine zV ?_ | refine zF ?_ | refine zX ?_ | refine yag ?_ | refine ycr 1001 c1 rfl rfl rfl rfl rfl rfl rfl rfl rfl rfl ?_))
  (repeat (first | with_reducible refine yad ?_ | with_reducible refine yab ?_ | refine yac ?_ | refine yaf ?_ | refine yaa ?_)); refine yah (lf := lfT) rfl ?_
  (repeat (first | refine zI ?_ | refine zL ?_ | refine zC ?_ | refine zK ?_ | refine zB ?_ | refine zA ?_ | refine zS ?_ | refine zU ?_ | refine zV ?_ | refine zF ?_ | refine zX ?_ | refine yag ?_ | refine ycr 1001 done_con rfl rfl rfl rfl rfl rfl rfl rfl rfl rfl ?_))
  (repeat (first | with_reducible refine yad ?_ | with_reducible refine yab ?_ | refine yac ?_ | refine yaf ?_ | refine yaa ?_))
  obtain ⟨t, r, rfl⟩ : ∃ t r, ts1 = t :: r := by cases ts1 with | nil => exact absurd rfl hne | cons t r => exact ⟨t, r, rfl⟩
  refine zT ?_
  (repeat (first | with_reducible refine yad ?_ | with_reducible refine yab ?_ | refine yac ?_ | refine yaf ?_ | refine yaa ?_)); refine ybd (lf := lfT) 0 rfl rfl rfl ?_
  exact yag ⟨rfl, D_rd 1001 (fail_con 4) rfl rfl rfl rfl rfl⟩
theorem p1_bad {c : Int} {ts1 : List Tok} (h : ydl s ts) (hs : ts1 <:+ ts) (hr : RdRes 23 [] s names [] ts (.bad c (ts1.map (pwT s)))) : ConP Tryz.prog 22 [.lp 1001 0, .lp 1004 0] (yaq (p1H s ts names (.v (.slice none 0 0)))) (failP (yez s ts1) c) := by
  have c1 := rd_bad hr hs
  refine conP_of Tryz.func22 rfl rfl Tryz.ntmps22 rfl ?_
  show A _ _ _ _ (S _ _)
  (repeat (first | with_reducible refine yad ?_ | with_reducible refine yab ?_ | refine yac ?_ | refine yaf ?_ | refine yaa ?_)); refine ybd (lf := lfT) 0 rfl rfl rfl ?_
  exact yag ⟨rfl, D_rd 1001 c1 rfl rfl rfl rfl rfl⟩
theorem fresh_p1 {i : Nat} {x : AV} (hi : i < 1000) (hx : ment i x = false) : yev i (p1H s ts names x) = true :=
  fresh_rd (beq_ne (by omega)) (fresh_c (beq_ne (by omega)) (by simp [ment.mentL, hx]) rfl)
theorem keys_p1 {ts' : List Tok} {x y : AV} : ∀ i ∈ keysH (p1H s ts names x ++ p1H s ts' names y), 1000 ≤ i := by
  intro i hi
  simp [keysH, p1H] at hi
  omega
theorem caps_p1 : ∀ i, i < 1000 → ment.mentL i [.lp 1001 0, .lp 1004 0] = false := by
  intro i hi
  simp only [ment.mentL, ment, Bool.or_false]
  rw [beq_ne (by omega), beq_ne (by omega)]; rfl
theorem catm_ok {x : List Tm} : CatMem 22 [.lp 1001 0, .lp 1004 0] (p1H s ts names (.v (.slice none 0 0))) (p1H s [] names (yay x)) := by
  refine ⟨keys_p1, caps_p1, fun i hi => fresh_p1 hi rfl, fun i hi => fresh_p1 hi rfl, fun id o ho => ?_⟩
  simp only [p1H, yaq] at ho
  split at ho
  · cases ho
    simp only [rdO, onlyO, onlyA.onlyL, onlyL_v]
    rfl
  · split at ho
    · cases ho; rfl
    · cases ho
theorem catm_bad : CatMem 22 [.lp 1001 0, .lp 1004 0] (p1H s ts names (.v (.slice none 0 0))) [] := by
  refine ⟨?_, caps_p1, fun i hi => fresh_p1 hi rfl, fun i hi => rfl, fun id o ho => by cases ho⟩
  intro i hi
  simp [keysH, p1H] at hi
  omega
def parseA (q : List Tm × Int × Int) : AV := .tup [yay q.1, i64 q.2.1, i64 q.2.2]
theorem frz_px0 {h : Nat → Option LObj} {r : List Tm × Int × Int} {a b : Int} (hr : r = ([], a, b)) : Frz h (.tup [.v (.slice none 0 0), .v (.int .i64 a), .v (.int .i64 b)]) (parseA r) := by
  subst hr; exact Frz.tup3 Frz.nil Frz.pure Frz.pure
theorem place_at {ts1 : List Tok} (h : ts1 <:+ ts) : yez s ts1 = atPlace s ts (ts1.map (pwT s)) := by
  have := tsOf_suf h
  unfold atPlace yez
  rw [List.length_map]
  unfold tsOf at this
  rw [this]
  cases ts1 <;> rfl
theorem parse_con (s : ByteArray) (names : List Bs) (hs : s.size ≤ 1000000000) (hl : names.length ≤ 1000) (hn : ∀ x ∈ names, x.length ≤ 1000) : Con Tryz.prog 11 [yey s, ybj names] (parseA (parseX nmW names s)) := by
  refine ybw Tryz.func11 rfl rfl Tryz.ntmps11 Tryz.results11 rfl rfl ?_
  (repeat (first | refine zI ?_ | refine zL ?_ | refine zC ?_ | refine yag ?_ | refine yaf ?_ | refine zR ?_ | refine zD ?_ | refine zK ?_ | refine zB ?_ | refine zA ?_ | refine zS ?_ | refine zU ?_ | refine zV ?_ | refine zF ?_ | with_reducible refine yab ?_ | with_reducible refine yad ?_ | refine yaa ?_ | refine yac ?_ | refine yae ?_ | refine zT ?_ | refine zE ?_ | refine zX ?_ | refine yak rfl rfl (good_con names hl hn) rfl rfl ?_))
  refine yam rfl (fun h1 => ?_) (fun h1 => ?_)
  · (repeat (first | refine zI ?_ | refine zL ?_ | refine zC ?_ | refine yag ?_ | refine yaf ?_ | refine zR ?_ | refine zD ?_ | refine zK ?_ | refine zB ?_ | refine zA ?_ | refine zS ?_ | refine zU ?_ | refine zV ?_ | refine zF ?_ | with_reducible refine yab ?_ | with_reducible refine yad ?_ | refine yaa ?_ | refine yac ?_ | refine yae ?_ | refine zT ?_ | refine zE ?_ | refine zX ?_))
    refine yar ?_; refine ⟨_, rfl, ?_⟩
    exact frz_px0 (parseX_bad (by simpa using h1))
  have hg : yeo nmW names = true := by simpa using h1
  (repeat (first | refine zI ?_ | refine zL ?_ | refine zC ?_ | refine yag ?_ | refine yaf ?_ | refine zR ?_ | refine zD ?_ | refine zK ?_ | refine zB ?_ | refine zA ?_ | refine zS ?_ | refine zU ?_ | refine zV ?_ | refine zF ?_ | with_reducible refine yab ?_ | with_reducible refine yad ?_ | refine yaa ?_ | refine yac ?_ | refine yae ?_ | refine zT ?_ | refine zE ?_ | refine zX ?_))
  have hsc := scan_con s (by omega)
  cases hscan : scanF s with
  | error pe =>
    obtain ⟨p, e⟩ := pe
    have hbd := scan_pos hscan
    rw [scanA, hscan] at hsc
    (repeat (first | refine zI ?_ | refine zL ?_ | refine zC ?_ | refine yag ?_ | refine yaf ?_ | refine zR ?_ | refine zD ?_ | refine zK ?_ | refine zB ?_ | refine zA ?_ | refine zS ?_ | refine zU ?_ | refine zV ?_ | refine zF ?_ | with_reducible refine yab ?_ | with_reducible refine yad ?_ | refine yaa ?_ | refine yac ?_ | refine yae ?_ | refine zT ?_ | refine zE ?_ | refine zX ?_ | refine yak rfl rfl hsc rfl rfl ?_))
    refine yam rfl (fun h2 => ?_) (fun h2 => ?_)
    · (repeat (first | refine zI ?_ | refine zL ?_ | refine zC ?_ | refine yag ?_ | refine yaf ?_ | refine zR ?_ | refine zD ?_ | refine zK ?_ | refine zB ?_ | refine zA ?_ | refine zS ?_ | refine zU ?_ | refine zV ?_ | refine zF ?_ | with_reducible refine yab ?_ | with_reducible refine yad ?_ | refine yaa ?_ | refine yac ?_ | refine yae ?_ | refine zT ?_ | refine zE ?_ | refine zX ?_))
      refine yar ?_; refine ⟨_, rfl, ?_⟩
      exact frz_px0 (parseX_err hg hscan)
    · simp at h2
      omega
  | ok ts =>
    rw [scanA, hscan] at hsc
    have hti := tokIn_scan hscan
    have htl := scanF_len hscan
    obtain ⟨res, hres⟩ := pars_total (nm := nmW) (names := names) (ts.map (pwT s))
    have hpx := parseX_of hg hscan hres
    rw [hpx]
    obtain ⟨f, hf⟩ := hres
    have hrd := (parser_rd (us := []) hl hs f f (Nat.le_refl _)).choice ts res hti (by omega) hf
    have sp := ydo _ _ _ _ hf
    cases res with
    | bad c rest =>
      obtain ⟨ts1, hs1, rfl⟩ := ydc sp.1
      have hcat := catch_bad (p1_bad hti hs1 hrd) catm_bad
      have hc0 : c = 4 ∨ c = 5 := sp.2.1
      (repeat (first | refine zI ?_ | refine zL ?_ | refine zC ?_ | refine yag ?_ | refine yaf ?_ | refine zR ?_ | refine zD ?_ | refine zK ?_ | refine zB ?_ | refine zA ?_ | refine zS ?_ | refine zU ?_ | refine zV ?_ | refine zF ?_ | with_reducible refine yab ?_ | with_reducible refine yad ?_ | refine yaa ?_ | refine yac ?_ | refine yae ?_ | refine zT ?_ | refine zE ?_ | refine zX ?_ | refine yak rfl rfl hsc rfl rfl ?_))
      refine L_callM [(1001, 10), (1004, 11)] hcat rfl rfl rfl rfl rfl rfl rfl (yai rfl (yai rfl yan)) rfl rfl rfl rfl rfl rfl ?_
      (repeat (first | refine zI ?_ | refine zL ?_ | refine zC ?_ | refine yag ?_ | refine yaf ?_ | refine zR ?_ | refine zD ?_ | refine zK ?_ | refine zB ?_ | refine zA ?_ | refine zS ?_ | refine zU ?_ | refine zV ?_ | refine zF ?_ | with_reducible refine yab ?_ | with_reducible refine yad ?_ | refine yaa ?_ | refine yac ?_ | refine yae ?_ | refine zT ?_ | refine zE ?_ | refine zX ?_))
      refine yam rfl (fun h2 => ?_) (fun h2 => ?_)
      · (repeat (first | refine zI ?_ | refine zL ?_ | refine zC ?_ | refine yag ?_ | refine yaf ?_ | refine zR ?_ | refine zD ?_ | refine zK ?_ | refine zB ?_ | refine zA ?_ | refine zS ?_ | refine zU ?_ | refine zV ?_ | refine zF ?_ | with_reducible refine yab ?_ | with_reducible refine yad ?_ | refine yaa ?_ | refine yac ?_ | refine yae ?_ | refine zT ?_ | refine zE ?_ | refine zX ?_))
        refine yar ?_; refine ⟨_, rfl, ?_⟩
        refine frz_px0 ?_
        rw [place_at hs1]; rfl
      · simp at h2
        omega
    | ok x rest =>
      obtain ⟨ts1, hs1, rfl⟩ := ydc sp.1
      cases ts1 with
      | cons t r =>
        have hcat := catch_bad (p1_left hti hs1 (by simp) hrd) catm_bad
        (repeat (first | refine zI ?_ | refine zL ?_ | refine zC ?_ | refine yag ?_ | refine yaf ?_ | refine zR ?_ | refine zD ?_ | refine zK ?_ | refine zB ?_ | refine zA ?_ | refine zS ?_ | refine zU ?_ | refine zV ?_ | refine zF ?_ | with_reducible refine yab ?_ | with_reducible refine yad ?_ | refine yaa ?_ | refine yac ?_ | refine yae ?_ | refine zT ?_ | refine zE ?_ | refine zX ?_ | refine yak rfl rfl hsc rfl rfl ?_))
        refine L_callM [(1001, 10), (1004, 11)] hcat rfl rfl rfl rfl rfl rfl rfl (yai rfl (yai rfl yan)) rfl rfl rfl rfl rfl rfl ?_
        (repeat (first | refine zI ?_ | refine zL ?_ | refine zC ?_ | refine yag ?_ | refine yaf ?_ | refine zR ?_ | refine zD ?_ | refine zK ?_ | refine zB ?_ | refine zA ?_ | refine zS ?_ | refine zU ?_ | refine zV ?_ | refine zF ?_ | with_reducible refine yab ?_ | with_reducible refine yad ?_ | refine yaa ?_ | refine yac ?_ | refine yae ?_ | refine zT ?_ | refine zE ?_ | refine zX ?_))
        refine yar ?_; refine ⟨_, rfl, ?_⟩
        refine frz_px0 ?_
        rw [place_at hs1]; rfl
      | nil =>
        have hcat := catch_ok (p1_ok (names := names) hti hrd) catm_ok
        have hxl : x.length ≤ 1000000 := by
          have := sp.2.1
          simp only [List.length_map, NT.had] at this
          omega
        (repeat (first | refine zI ?_ | refine zL ?_ | refine zC ?_ | refine yag ?_ | refine yaf ?_ | refine zR ?_ | refine zD ?_ | refine zK ?_ | refine zB ?_ | refine zA ?_ | refine zS ?_ | refine zU ?_ | refine zV ?_ | refine zF ?_ | with_reducible refine yab ?_ | with_reducible refine yad ?_ | refine yaa ?_ | refine yac ?_ | refine yae ?_ | refine zT ?_ | refine zE ?_ | refine zX ?_ | refine yak rfl rfl hsc rfl rfl ?_))
        refine L_callM [(1001, 10), (1004, 11)] hcat rfl rfl rfl rfl rfl rfl rfl (yai rfl (yai rfl yan)) rfl rfl rfl rfl rfl rfl ?_
        (repeat (first | refine zI ?_ | refine zL ?_ | refine zC ?_ | refine yag ?_ | refine yaf ?_ | refine zR ?_ | refine zD ?_ | refine zK ?_ | refine zB ?_ | refine zA ?_ | refine zS ?_ | refine zU ?_ | refine zV ?_ | refine zF ?_ | with_reducible refine yab ?_ | with_reducible refine yad ?_ | refine yaa ?_ | refine yac ?_ | refine yae ?_ | refine zT ?_ | refine zE ?_ | refine zX ?_ | refine L_load1 tok rfl rfl rfl rfl rfl rfl rfl ?_ | refine yak rfl rfl (xvalid_con x names.length hxl) rfl rfl ?_))
        refine yam rfl (fun h3 => ?_) (fun h3 => ?_)
        · have h3 : yda x names.length = false := by simpa using h3
          (repeat (first | refine zI ?_ | refine zL ?_ | refine zC ?_ | refine yag ?_ | refine yaf ?_ | refine zR ?_ | refine zD ?_ | refine zK ?_ | refine zB ?_ | refine zA ?_ | refine zS ?_ | refine zU ?_ | refine zV ?_ | refine zF ?_ | with_reducible refine yab ?_ | with_reducible refine yad ?_ | refine yaa ?_ | refine yac ?_ | refine yae ?_ | refine zT ?_ | refine zE ?_ | refine zX ?_))
          refine yar ?_; refine ⟨_, rfl, ?_⟩
          exact frz_px0 (by simp [ansX, h3])
        · have h3 : yda x names.length = true := by simpa using h3
          (repeat (first | refine zI ?_ | refine zL ?_ | refine zC ?_ | refine yag ?_ | refine yaf ?_ | refine zR ?_ | refine zD ?_ | refine zK ?_ | refine zB ?_ | refine zA ?_ | refine zS ?_ | refine zU ?_ | refine zV ?_ | refine zF ?_ | with_reducible refine yab ?_ | with_reducible refine yad ?_ | refine yaa ?_ | refine yac ?_ | refine yae ?_ | refine zT ?_ | refine zE ?_ | refine zX ?_ | refine L_load1 tok rfl rfl rfl rfl rfl rfl rfl ?_))
          refine yar ?_; refine ⟨_, rfl, ?_⟩
          rw [show ansX s ts names.length (.ok x (List.map (pwT s) [])) = (x, 0, 0) by simp [ansX, h3]]
          exact Frz.pure
end
end Go.Proofs.YtcpgpiabeimefaaGreatDoor
set_option linter.unusedVariables false
set_option maxRecDepth 100000
set_option maxHeartbeats 4000000
namespace Go.Proofs.YtcpgpiabeimefaaGreatDoor
open Go.RowKit
theorem rparse_con (s : ByteArray) (names : List Bs) (hs : s.size ≤ 1000000000) (hl : names.length ≤ 1000) (hn : ∀ x ∈ names, x.length ≤ 1000) : Con Tryz.prog 12 [yey s, ybj names] (parseA (parseX nmW names s)) := by
  refine ybw Tryz.func12 rfl rfl Tryz.ntmps12 Tryz.results12 rfl rfl ?_
  (repeat (first | refine zI ?_ | refine zL ?_ | refine zC ?_ | refine yag ?_ | refine yaf ?_ | refine zR ?_ | refine zD ?_ | refine zK ?_ | refine zB ?_ | refine zA ?_ | refine zS ?_ | refine zU ?_ | refine zV ?_ | refine zF ?_ | with_reducible refine yab ?_ | with_reducible refine yad ?_ | refine yaa ?_ | refine yac ?_ | refine yae ?_ | refine zT ?_ | refine zE ?_ | refine zX ?_ | refine yak rfl rfl (rgood_con names hl hn) rfl rfl ?_))
  refine yam rfl (fun h1 => ?_) (fun h1 => ?_)
  · (repeat (first | refine zI ?_ | refine zL ?_ | refine zC ?_ | refine yag ?_ | refine yaf ?_ | refine zR ?_ | refine zD ?_ | refine zK ?_ | refine zB ?_ | refine zA ?_ | refine zS ?_ | refine zU ?_ | refine zV ?_ | refine zF ?_ | with_reducible refine yab ?_ | with_reducible refine yad ?_ | refine yaa ?_ | refine yac ?_ | refine yae ?_ | refine zT ?_ | refine zE ?_ | refine zX ?_))
    refine yar ?_; refine ⟨_, rfl, ?_⟩
    exact frz_px0 (parseX_bad (by simpa using h1))
  have hg : yeo nmW names = true := by simpa using h1
  (repeat (first | refine zI ?_ | refine zL ?_ | refine zC ?_ | refine yag ?_ | refine yaf ?_ | refine zR ?_ | refine zD ?_ | refine zK ?_ | refine zB ?_ | refine zA ?_ | refine zS ?_ | refine zU ?_ | refine zV ?_ | refine zF ?_ | with_reducible refine yab ?_ | with_reducible refine yad ?_ | refine yaa ?_ | refine yac ?_ | refine yae ?_ | refine zT ?_ | refine zE ?_ | refine zX ?_))
  have hsc := rscan_con s (by omega)
  cases hscan : scanF s with
  | error pe =>
    obtain ⟨p, e⟩ := pe
    have hbd := scan_pos hscan
    rw [scanA, hscan] at hsc
    (repeat (first | refine zI ?_ | refine zL ?_ | refine zC ?_ | refine yag ?_ | refine yaf ?_ | refine zR ?_ | refine zD ?_ | refine zK ?_ | refine zB ?_ | refine zA ?_ | refine zS ?_ | refine zU ?_ | refine zV ?_ | refine zF ?_ | with_reducible refine yab ?_ | with_reducible refine yad ?_ | refine yaa ?_ | refine yac ?_ | refine yae ?_ | refine zT ?_ | refine zE ?_ | refine zX ?_ | refine yak rfl rfl hsc rfl rfl ?_))
    refine yam rfl (fun h2 => ?_) (fun h2 => ?_)
    · (repeat (first | refine zI ?_ | refine zL ?_ | refine zC ?_ | refine yag ?_ | refine yaf ?_ | refine zR ?_ | refine zD ?_ | refine zK ?_ | refine zB ?_ | refine zA ?_ | refine zS ?_ | refine zU ?_ | refine zV ?_ | refine zF ?_ | with_reducible refine yab ?_ | with_reducible refine yad ?_ | refine yaa ?_ | refine yac ?_ | refine yae ?_ | refine zT ?_ | refine zE ?_ | refine zX ?_))
      refine yar ?_; refine ⟨_, rfl, ?_⟩
      exact frz_px0 (parseX_err hg hscan)
    · simp at h2
      omega
  | ok ts =>
    rw [scanA, hscan] at hsc
    have hti := tokIn_scan hscan
    have htl := scanF_len hscan
    obtain ⟨res, hres⟩ := pars_total (nm := nmW) (names := names) (ts.map (pwT s))
    have hpx := parseX_of hg hscan hres
    rw [hpx]
    obtain ⟨f, hf⟩ := hres
    have hrd := (rparser_rd (names := names) hti (by omega) hl hs f f (Nat.le_refl _)).choice 0 0 res (Nat.zero_le _) (by rw [List.drop_zero]; exact hf)
    have sp := ydo _ _ _ _ hf
    cases res with
    | bad c rest =>
      have hc0 := bad_ne sp
      obtain ⟨a1, _, k1, rfl, _⟩ := ydi (a := 0) (by rw [List.drop_zero]; exact sp.1) (Nat.zero_le _)
      obtain ⟨x, a2, q1, q2, q3, c1⟩ := rf_bad hrd k1
      (repeat (first | refine zI ?_ | refine zL ?_ | refine zC ?_ | refine yag ?_ | refine yaf ?_ | refine zR ?_ | refine zD ?_ | refine zK ?_ | refine zB ?_ | refine zA ?_ | refine zS ?_ | refine zU ?_ | refine zV ?_ | refine zF ?_ | with_reducible refine yab ?_ | with_reducible refine yad ?_ | refine yaa ?_ | refine yac ?_ | refine yae ?_ | refine zT ?_ | refine zE ?_ | refine zX ?_ | refine yak rfl rfl hsc rfl rfl ?_ | refine ybl 29 c1 rfl rfl rfl rfl rfl rfl rfl rfl rfl rfl rfl rfl ?_ | refine yao rfl rfl rfl rfl ?_))
      refine ych 37 rfl (fun h2 => ?_) (fun h2 => ?_)
      · exact absurd (by simpa using h2) hc0
      (repeat (first | refine zI ?_ | refine zL ?_ | refine zC ?_ | refine yag ?_ | refine yaf ?_ | refine zR ?_ | refine zD ?_ | refine zK ?_ | refine zB ?_ | refine zA ?_ | refine zS ?_ | refine zU ?_ | refine zV ?_ | refine zF ?_ | with_reducible refine yab ?_ | with_reducible refine yad ?_ | refine yaa ?_ | refine yac ?_ | refine yae ?_ | refine zT ?_ | refine zE ?_ | refine zX ?_ | refine yao rfl rfl rfl rfl ?_))
      refine yam rfl (fun h3 => ?_) (fun h3 => ?_)
      · (repeat (first | refine zI ?_ | refine zL ?_ | refine zC ?_ | refine yag ?_ | refine yaf ?_ | refine zR ?_ | refine zD ?_ | refine zK ?_ | refine zB ?_ | refine zA ?_ | refine zS ?_ | refine zU ?_ | refine zV ?_ | refine zF ?_ | with_reducible refine yab ?_ | with_reducible refine yad ?_ | refine yaa ?_ | refine yac ?_ | refine yae ?_ | refine zT ?_ | refine zE ?_ | refine zX ?_ | refine yao rfl rfl rfl rfl ?_))
        refine yar ?_; refine ⟨_, rfl, ?_⟩
        refine frz_px0 ?_
        rw [place_at (List.drop_suffix a1 ts)]; rfl
      · exact absurd (by simpa using h3) hc0
    | ok x rest =>
      obtain ⟨a1, _, k1, rfl, _⟩ := ydi (a := 0) (by rw [List.drop_zero]; exact sp.1) (Nat.zero_le _)
      have c1 := rf_ok hrd k1
      have hxl : x.length ≤ 1000000 := by
        have := sp.2.1
        simp only [List.length_map, NT.had] at this
        omega
      (repeat (first | refine zI ?_ | refine zL ?_ | refine zC ?_ | refine yag ?_ | refine yaf ?_ | refine zR ?_ | refine zD ?_ | refine zK ?_ | refine zB ?_ | refine zA ?_ | refine zS ?_ | refine zU ?_ | refine zV ?_ | refine zF ?_ | with_reducible refine yab ?_ | with_reducible refine yad ?_ | refine yaa ?_ | refine yac ?_ | refine yae ?_ | refine zT ?_ | refine zE ?_ | refine zX ?_ | refine yak rfl rfl hsc rfl rfl ?_ | refine ybl 29 c1 rfl rfl rfl rfl rfl rfl rfl rfl rfl rfl rfl rfl ?_ | refine yao rfl rfl rfl rfl ?_))
      refine yam rfl (fun h2 => ?_) (fun h2 => ?_)
      · have h2 : a1 < ts.length := by simp at h2; omega
        obtain ⟨t, ht, hd⟩ := drop_here h2
        (repeat (first | refine zI ?_ | refine zL ?_ | refine zC ?_ | refine yag ?_ | refine yaf ?_ | refine zR ?_ | refine zD ?_ | refine zK ?_ | refine zB ?_ | refine zA ?_ | refine zS ?_ | refine zU ?_ | refine zV ?_ | refine zF ?_ | with_reducible refine yab ?_ | with_reducible refine yad ?_ | refine yaa ?_ | refine yac ?_ | refine yae ?_ | refine zT ?_ | refine zE ?_ | refine zX ?_ | refine ybl 29 (fail_rf 4 k1) rfl rfl rfl rfl rfl rfl rfl rfl rfl rfl rfl rfl ?_ | refine yao rfl rfl rfl rfl ?_))
        refine yar ?_; refine ⟨_, rfl, ?_⟩
        refine frz_px0 ?_
        rw [place_at (List.drop_suffix a1 ts), hd]; rfl
      · have h2 : a1 = ts.length := by simp at h2; omega
        have e0 : (ts.drop a1).map (pwT s) = [] := by rw [List.drop_eq_nil_of_le (by omega)]; rfl
        rw [e0]
        (repeat (first | refine zI ?_ | refine zL ?_ | refine zC ?_ | refine yag ?_ | refine yaf ?_ | refine zR ?_ | refine zD ?_ | refine zK ?_ | refine zB ?_ | refine zA ?_ | refine zS ?_ | refine zU ?_ | refine zV ?_ | refine zF ?_ | with_reducible refine yab ?_ | with_reducible refine yad ?_ | refine yaa ?_ | refine yac ?_ | refine yae ?_ | refine zT ?_ | refine zE ?_ | refine zX ?_ | refine yao rfl rfl rfl rfl ?_ | refine yak rfl rfl (xrvalid_con x names.length hxl) rfl rfl ?_))
        refine yam rfl (fun h3 => ?_) (fun h3 => ?_)
        · have h3 : yda x names.length = false := by simpa using h3
          (repeat (first | refine zI ?_ | refine zL ?_ | refine zC ?_ | refine yag ?_ | refine yaf ?_ | refine zR ?_ | refine zD ?_ | refine zK ?_ | refine zB ?_ | refine zA ?_ | refine zS ?_ | refine zU ?_ | refine zV ?_ | refine zF ?_ | with_reducible refine yab ?_ | with_reducible refine yad ?_ | refine yaa ?_ | refine yac ?_ | refine yae ?_ | refine zT ?_ | refine zE ?_ | refine zX ?_))
          refine yar ?_; refine ⟨_, rfl, ?_⟩
          exact frz_px0 (by simp [ansX, h3])
        · have h3 : yda x names.length = true := by simpa using h3
          (repeat (first | refine zI ?_ | refine zL ?_ | refine zC ?_ | refine yag ?_ | refine yaf ?_ | refine zR ?_ | refine zD ?_ | refine zK ?_ | refine zB ?_ | refine zA ?_ | refine zS ?_ | refine zU ?_ | refine zV ?_ | refine zF ?_ | with_reducible refine yab ?_ | with_reducible refine yad ?_ | refine yaa ?_ | refine yac ?_ | refine yae ?_ | refine zT ?_ | refine zE ?_ | refine zX ?_))
          refine yar ?_; refine ⟨_, rfl, ?_⟩
          rw [show ansX s ts names.length (.ok x []) = (x, 0, 0) by simp [ansX, h3]]
          exact Frz.pure
end Go.Proofs.YtcpgpiabeimefaaGreatDoor
set_option linter.unusedVariables false
set_option maxRecDepth 100000
namespace Go.Proofs.YtcpgpiabeimefaaGreatDoor
open Go.RowKit
def lits1 (l : List (DataW Unit)) : List Value := l.flatMap fun | .lit (.int k z) => [.int k z] | _ => []
def lits2 : DataW Unit → List Value
  | .agg l => l.flatMap fun | .lit (.int k z) => [.int k z] | .agg m => lits1 m | _ => []
  | _ => []
def layIn (vs : List Value) : Obj → Obj
  | .cells _ t frozen => .cells vs.toArray t frozen
  | o => o
noncomputable def ycy (os : Os) : World :=
  { World.holding Tryz.prog os ⟨#[], #[], []⟩ with heap := (((World.holding Tryz.prog os ⟨#[], #[], []⟩).heap.modify 2 (layIn (lits2 Rows.laid_math_bits_deBruijn32tab))).modify 3 (layIn (lits2 Rows.laid_math_bits_deBruijn64tab))).modify 1 (layIn (lits2 Rows.laid_internal_strconv_uint64pow10)) }
theorem glob_of {laid : List (String × DataW Unit)} {W : World} (hl : (laid.filter fun x => x.1 == "internal/strconv.uint64pow10") = [("internal/strconv.uint64pow10", Rows.laid_internal_strconv_uint64pow10)]) (hs : W.ShapedOpen Tryz.prog) (h : laidMetH Tryz.prog laid W) : Glob W := by
  have h2 := laidMetH.filter (fun x => x.1 == "internal/strconv.uint64pow10") h
  rw [hl] at h2
  have h3 : laidMet Tryz.prog [("internal/strconv.uint64pow10", Lib.tabData .u64 Lib.pow10Tab)] W := h2
  exact Lib.tabIs_of_head (t := 119) (e := 113) (n := 20) gPow10 (by kernel_rfl) Tryz.underlying119 Tryz.underlying113 (by kernel_rfl) (by kernel_rfl) h3
end Go.Proofs.YtcpgpiabeimefaaGreatDoor
