/- Part 15 of the texts under ExprFormats,ExprBracketsEverything: joined, with what it needs alone. -/
import Derived.Test.YtcpgpiabeimefaaGreatDoorR9
import Derived.Test.YtcpgpiabeimefaaGreatDoorR13
import Derived.Test.YtcpgpiabeimefaaGreatDoorR14
set_option linter.unusedVariables false
set_option maxRecDepth 100000
set_option maxHeartbeats 4000000
namespace Go.Proofs.YtcpgpiabeimefaaGreatDoor
open Go.RowKit
def yku (ts : List Tok) (n : Nat) : List Tok := ts.drop (ts.length - n)
theorem tsOf_suf {ts ts' : List Tok} (h : ts' <:+ ts) : yku ts ts'.length = ts' := by
  obtain ⟨p, rfl⟩ := h
  simp [yku]
theorem suf_map {g : Tok → PW} {ts : List Tok} {r : List PW} (h : r <:+ ts.map g) : yku ts r.length <:+ ts ∧ (yku ts r.length).map g = r := by
  refine ⟨List.drop_suffix _ _, ?_⟩
  obtain ⟨p, hp⟩ := h
  have hl : p.length + r.length = ts.length := by have := congrArg List.length hp; simpa using this
  rw [yku, List.map_drop, ← hp, List.drop_append]
  have e : ts.length - r.length = p.length := by omega
  rw [e]
  simp
theorem yfg.suf {s : ByteArray} {ts ts' : List Tok} (h : yfg s ts) (hs : ts' <:+ ts) : yfg s ts' := fun t ht => h t (hs.subset ht)
def EndsR (rs : List ResultVar) (s : ByteArray) (names : List Bs) (us : List Value) (ts : List Tok) (res : Res) (e : Exit) (st : SS) : Prop := match res with
  | .ok x rest => EndsM TT rs (ybc x) (yao (rdH s (yku ts rest.length) names us)) e st
  | .bad c rest => EndsP (yis (ygs s (yku ts rest.length)) c) e st
def yif (f : FuncId) (args : List AV) (s : ByteArray) (names : List Bs) (us : List Value) (ts : List Tok) (res : Res) : Prop := match res with
  | .ok x rest => yia Tryz.prog f (.lp 1001 0 :: args) (yao (rdH s ts names us)) (ybc x) (yao (rdH s (yku ts rest.length) names us))
  | .bad c rest => ykn Tryz.prog f (.lp 1001 0 :: args) (yao (rdH s ts names us)) (yis (ygs s (yku ts rest.length)) c)
theorem ybl {f : FuncId} {fn : Func} {c : Code} {N : Nat} {rs : List ResultVar} {args : List AV} {s : ByteArray} {names : List Bs} {us : List Value} {ts : List Tok} {res : Res} (hf : Tryz.prog.funcs[f]? = some fn) (hn : (fn.name == "runtime.NumGoroutine") = false) (hb : fn.body = some c) (hN : fn.ntmps = N) (hrs : fn.results = rs.toArray) (hlen : (Nat.ble (args.length + 1) N && Nat.ble N 1000000) = true) (hM : Nat.ble N 1001 = true)
    (h : A Tryz.prog N c (EndsR rs s names us ts res) (S (yfd 0 (.lp 1001 0 :: args)) (rdH s ts names us))) : yif f args s names us ts res := by
  cases res with
  | ok x rest => exact ycw tok hf hn hb hN hrs hlen (yka hM) h
  | bad c rest => exact conP_of hf hn hb hN hlen h
theorem ydb {rs : List ResultVar} {s : ByteArray} {names : List Bs} {us : List Value} {ts ts' : List Tok} {x : List Tm} {rest : List PW} {t : List (Nat × AV)} {h : List (Nat × Option LObj)} {y : AV} (hts : ts' <:+ ts) (hr : ts'.length = rest.length) (hx : yjf TT (S t h) rs = some y) (hy : y = ybc x) (hh : yao h 1001 = some (rdO s ts' names us)) : EndsR rs s names us ts (.ok x rest) .ret (S t h) := by
  subst hy
  refine ⟨_, hx, ybk _, ?_⟩
  rw [← hr, tsOf_suf hts]
  exact yba (yak hh yar)
theorem var_rest {nm : Bs → Bool} {names : List Bs} {op c : Int} {ts rest : List PW} (h : yji nm names op ts = .bad c rest) : rest = ts := by
  unfold yji at h
  cases ts with
  | nil => simp only [Res.bad.injEq] at h; exact h.2.symm
  | cons t r =>
    simp only at h
    split at h
    · split at h
      · cases h
      · simp only [Res.bad.injEq] at h; exact h.2.symm
    · simp only [Res.bad.injEq] at h; exact h.2.symm
theorem var_ok {nm : Bs → Bool} {names : List Bs} {s : ByteArray} {op : Int} {ts : List Tok} {x : List Tm} {rest : List PW} (h : yji nm names op (ts.map (pwT s)) = .ok x rest) : ∃ t r i, ts = t :: r ∧ nm (pwT s t).w = true ∧ yhc names (pwT s t).w = some i ∧ x = [(op, (i : Int))] ∧ rest = r.map (pwT s) := by
  unfold yji at h
  cases ts with
  | nil => cases h
  | cons t r =>
    simp only [List.map_cons] at h
    split at h
    · rename_i hn
      split at h
      · rename_i i hi
        simp only [Res.ok.injEq] at h
        exact ⟨t, r, i, rfl, hn, hi, h.1.symm, h.2.symm⟩
      · cases h
    · cases h
theorem ycf {s : ByteArray} {ts ts' : List Tok} {c : Int} {rest : List PW} (hts : ts' <:+ ts) (hr : ts'.length = rest.length) : yis (ygs s ts') c = yis (ygs s (yku ts rest.length)) c := by
  rw [← hr, tsOf_suf hts]
section
variable {s : ByteArray} {ts : List Tok} {names : List Bs} {us : List Value}
theorem word_len {t : Tok} {r : List Tok} (h : yfg s (t :: r)) (hs : s.size ≤ 1000000000) : (pwT s t).w.length ≤ 1000000000 := by
  simp only [pwT, yaj, List.length_take, List.length_drop]; have := (h t (by simp)).2.1; omega
theorem variable_ok {t : Tok} {r : List Tok} {x : Nat} (h : yfg s (t :: r)) (hl : names.length ≤ 1000) (hs : s.size ≤ 1000000000) (hw : nmW (pwT s t).w = true) (hx : yhc names (pwT s t).w = some x) : yia Tryz.prog 120 [.lp 1001 0] (yao (rdH s (t :: r) names us)) (i64 x) (yao (rdH s r names us)) := by
  have hk := (h t (by simp)).2.2 hw
  have hwl := word_len h hs
  refine ycw tok Tryz.func120 rfl rfl Tryz.ntmps120 Tryz.results120 rfl (yka rfl) ?_
  show A _ _ _ _ (S _ _)
  (repeat (first | refine zI ?_ | refine zL ?_ | refine zC ?_ | refine yaf ?_ | refine yae ?_ | refine zR ?_ | refine zD ?_ | refine zK ?_ | refine zB ?_ | refine zA ?_ | refine zS ?_ | refine zU ?_ | refine zV ?_ | refine zF ?_ | with_reducible refine yab ?_ | with_reducible refine yad ?_ | refine yaa ?_ | refine yac ?_ | refine yag ?_ | refine zT ?_ | refine zE ?_ | refine zX ?_ | refine ybx 1001 (yci h) rfl rfl rfl rfl rfl rfl rfl rfl rfl rfl ?_ | refine ybx 1001 (ydj h) rfl rfl rfl rfl rfl rfl rfl rfl rfl rfl ?_))
  refine ych 10 rfl (fun h2 => ?_) (fun h2 => ?_)
  · simp [yhx, hk] at h2
  (repeat (first | refine zI ?_ | refine zL ?_ | refine zC ?_ | refine yaf ?_ | refine yae ?_ | refine zR ?_ | refine zD ?_ | refine zK ?_ | refine zB ?_ | refine zA ?_ | refine zS ?_ | refine zU ?_ | refine zV ?_ | refine zF ?_ | with_reducible refine yab ?_ | with_reducible refine yad ?_ | refine yaa ?_ | refine yac ?_ | refine yag ?_ | refine zT ?_ | refine zE ?_ | refine zX ?_ | refine yam rfl rfl rfl rfl ?_ | refine yal rfl rfl (name_con (pwT s t).w (by omega)) rfl rfl ?_))
  refine yaq rfl (fun h3 => ?_) (fun h3 => ?_)
  · rw [hw] at h3; cases h3
  (repeat (first | refine zI ?_ | refine zL ?_ | refine zC ?_ | refine yaf ?_ | refine yae ?_ | refine zR ?_ | refine zD ?_ | refine zK ?_ | refine zB ?_ | refine zA ?_ | refine zS ?_ | refine zU ?_ | refine zV ?_ | refine zF ?_ | with_reducible refine yab ?_ | with_reducible refine yad ?_ | refine yaa ?_ | refine yac ?_ | refine yag ?_ | refine zT ?_ | refine zE ?_ | refine zX ?_ | refine yam rfl rfl rfl rfl ?_ | refine yal rfl rfl (index_con names (pwT s t).w hl) rfl rfl ?_))
  rw [hx]
  (repeat (first | refine zI ?_ | refine zL ?_ | refine zC ?_ | refine yaf ?_ | refine yae ?_ | refine zR ?_ | refine zD ?_ | refine zK ?_ | refine zB ?_ | refine zA ?_ | refine zS ?_ | refine zU ?_ | refine zV ?_ | refine zF ?_ | with_reducible refine yab ?_ | with_reducible refine yad ?_ | refine yaa ?_ | refine yac ?_ | refine yag ?_ | refine zT ?_ | refine zE ?_ | refine zX ?_ | refine ybx 1001 (yfo t r) rfl rfl rfl rfl rfl rfl rfl rfl rfl rfl ?_))
  refine yau ?_
  exact ⟨_, rfl, ybk _, yba (yak rfl yar)⟩
theorem variable_bad {c : Int} {rest : List PW} {op : Int} (h : yfg s ts) (hl : names.length ≤ 1000) (hs : s.size ≤ 1000000000) (hv : yji nmW names op (ts.map (pwT s)) = .bad c rest) : ykn Tryz.prog 120 [.lp 1001 0] (yao (rdH s ts names us)) (yis (ygs s ts) c) := by
  refine conP_of Tryz.func120 rfl rfl Tryz.ntmps120 rfl ?_
  show A _ _ _ _ (S _ _)
  (repeat (first | with_reducible refine yad ?_ | with_reducible refine yab ?_ | refine yac ?_ | refine yae ?_ | refine yaa ?_)); refine yah (lf := lfT) rfl ?_
  (repeat (first | refine zI ?_ | refine zL ?_ | refine zC ?_ | refine zK ?_ | refine zB ?_ | refine zA ?_ | refine zS ?_ | refine zU ?_ | refine zV ?_ | refine zF ?_ | refine zX ?_ | refine yaf ?_))
  (repeat (first | with_reducible refine yad ?_ | with_reducible refine yab ?_ | refine yac ?_ | refine yae ?_ | refine yaa ?_)); refine yah (lf := lfT) rfl ?_
  (repeat (first | refine zI ?_ | refine zL ?_ | refine zC ?_ | refine zK ?_ | refine zB ?_ | refine zA ?_ | refine zS ?_ | refine zU ?_ | refine zV ?_ | refine zF ?_ | refine zX ?_ | refine yaf ?_ | refine ybx 1001 (yci h) rfl rfl rfl rfl rfl rfl rfl rfl rfl rfl ?_))
  (repeat (first | with_reducible refine yad ?_ | with_reducible refine yab ?_ | refine yac ?_ | refine yae ?_ | refine yaa ?_)); refine yah (lf := lfT) rfl ?_
  (repeat (first | refine zI ?_ | refine zL ?_ | refine zC ?_ | refine zK ?_ | refine zB ?_ | refine zA ?_ | refine zS ?_ | refine zU ?_ | refine zV ?_ | refine zF ?_ | refine zX ?_ | refine yaf ?_ | refine ybx 1001 (ydj h) rfl rfl rfl rfl rfl rfl rfl rfl rfl rfl ?_))
  cases ts with
  | nil =>
    simp only [List.map_nil, yji, Res.bad.injEq] at hv
    obtain ⟨rfl, _⟩ := hv
    (repeat (first | refine zI ?_ | refine zL ?_ | refine zC ?_ | refine zK ?_ | refine zB ?_ | refine zA ?_ | refine zS ?_ | refine zU ?_ | refine zV ?_ | refine zF ?_ | refine zX ?_ | refine yaf ?_))
    (repeat (first | with_reducible refine yad ?_ | with_reducible refine yab ?_ | refine yac ?_ | refine yae ?_ | refine yaa ?_))
    refine zT ?_
    (repeat (first | with_reducible refine yad ?_ | with_reducible refine yab ?_ | refine yac ?_ | refine yae ?_ | refine yaa ?_)); refine yav (lf := lfT) 1 rfl rfl rfl ?_
    (repeat (first | refine zI ?_ | refine zL ?_ | refine zC ?_ | refine zK ?_ | refine zB ?_ | refine zA ?_ | refine zS ?_ | refine zU ?_ | refine zV ?_ | refine zF ?_ | refine zX ?_ | refine yaf ?_))
    exact ⟨rfl, yiv 1001 (fail_con 4) rfl rfl rfl rfl rfl⟩
  | cons t r =>
    have hwl := word_len h hs
    refine ych 10 rfl (fun h2 => ?_) (fun h2 => ?_)
    · have hn : nmW (pwT s t).w = false := by
        cases hq : nmW (pwT s t).w with
        | false => rfl
        | true => have := (h t (by simp)).2.2 hq; simp [yhx, this] at h2
      simp only [List.map_cons, yji, hn, Bool.false_eq_true, if_false, Res.bad.injEq] at hv
      obtain ⟨rfl, _⟩ := hv
      (repeat (first | refine zI ?_ | refine zL ?_ | refine zC ?_ | refine zK ?_ | refine zB ?_ | refine zA ?_ | refine zS ?_ | refine zU ?_ | refine zV ?_ | refine zF ?_ | refine zX ?_ | refine yaf ?_))
      (repeat (first | with_reducible refine yad ?_ | with_reducible refine yab ?_ | refine yac ?_ | refine yae ?_ | refine yaa ?_))
      refine zT ?_
      (repeat (first | with_reducible refine yad ?_ | with_reducible refine yab ?_ | refine yac ?_ | refine yae ?_ | refine yaa ?_)); refine yav (lf := lfT) 1 rfl rfl rfl ?_
      (repeat (first | refine zI ?_ | refine zL ?_ | refine zC ?_ | refine zK ?_ | refine zB ?_ | refine zA ?_ | refine zS ?_ | refine zU ?_ | refine zV ?_ | refine zF ?_ | refine zX ?_ | refine yaf ?_))
      exact ⟨rfl, yiv 1001 (fail_con 4) rfl rfl rfl rfl rfl⟩
    (repeat (first | refine zI ?_ | refine zL ?_ | refine zC ?_ | refine zK ?_ | refine zB ?_ | refine zA ?_ | refine zS ?_ | refine zU ?_ | refine zV ?_ | refine zF ?_ | refine zX ?_ | refine yaf ?_ | refine yal rfl rfl (name_con (pwT s t).w (by omega)) rfl rfl ?_))
    (repeat (first | with_reducible refine yad ?_ | with_reducible refine yab ?_ | refine yac ?_ | refine yae ?_ | refine yaa ?_))
    refine yaq rfl (fun h3 => ?_) (fun h3 => ?_)
    · have hn : nmW (pwT s t).w = false := by simpa using h3
      simp only [List.map_cons, yji, hn, Bool.false_eq_true, if_false, Res.bad.injEq] at hv
      obtain ⟨rfl, _⟩ := hv
      (repeat (first | with_reducible refine yad ?_ | with_reducible refine yab ?_ | refine yac ?_ | refine yae ?_ | refine yaa ?_)); refine yav (lf := lfT) 1 rfl rfl rfl ?_
      (repeat (first | refine zI ?_ | refine zL ?_ | refine zC ?_ | refine zK ?_ | refine zB ?_ | refine zA ?_ | refine zS ?_ | refine zU ?_ | refine zV ?_ | refine zF ?_ | refine zX ?_ | refine yaf ?_))
      exact ⟨rfl, yiv 1001 (fail_con 4) rfl rfl rfl rfl rfl⟩
    have hn : nmW (pwT s t).w = true := by simpa using h3
    simp only [List.map_cons, yji, hn, if_true] at hv
    (repeat (first | with_reducible refine yad ?_ | with_reducible refine yab ?_ | refine yac ?_ | refine yae ?_ | refine yaa ?_)); refine yah (lf := lfT) rfl ?_
    (repeat (first | refine zI ?_ | refine zL ?_ | refine zC ?_ | refine zK ?_ | refine zB ?_ | refine zA ?_ | refine zS ?_ | refine zU ?_ | refine zV ?_ | refine zF ?_ | refine zX ?_ | refine yaf ?_ | refine yam rfl rfl rfl rfl ?_ | refine yal rfl rfl (index_con names (pwT s t).w hl) rfl rfl ?_))
    cases hx : yhc names (pwT s t).w with
    | some x => rw [hx] at hv; cases hv
    | none =>
      rw [hx] at hv
      simp only [Res.bad.injEq] at hv
      obtain ⟨rfl, _⟩ := hv
      (repeat (first | refine zI ?_ | refine zL ?_ | refine zC ?_ | refine zK ?_ | refine zB ?_ | refine zA ?_ | refine zS ?_ | refine zU ?_ | refine zV ?_ | refine zF ?_ | refine zX ?_ | refine yaf ?_))
      (repeat (first | with_reducible refine yad ?_ | with_reducible refine yab ?_ | refine yac ?_ | refine yae ?_ | refine yaa ?_)); refine yah (lf := lfT) rfl ?_
      (repeat (first | refine zI ?_ | refine zL ?_ | refine zC ?_ | refine zK ?_ | refine zB ?_ | refine zA ?_ | refine zS ?_ | refine zU ?_ | refine zV ?_ | refine zF ?_ | refine zX ?_ | refine yaf ?_))
      (repeat (first | with_reducible refine yad ?_ | with_reducible refine yab ?_ | refine yac ?_ | refine yae ?_ | refine yaa ?_))
      refine zT ?_
      (repeat (first | with_reducible refine yad ?_ | with_reducible refine yab ?_ | refine yac ?_ | refine yae ?_ | refine yaa ?_)); refine yav (lf := lfT) 1 rfl rfl rfl ?_
      (repeat (first | refine zI ?_ | refine zL ?_ | refine zC ?_ | refine zK ?_ | refine zB ?_ | refine zA ?_ | refine zS ?_ | refine zU ?_ | refine zV ?_ | refine zF ?_ | refine zX ?_ | refine yaf ?_))
      exact ⟨rfl, yiv 1001 (fail_con 5) rfl rfl rfl rfl rfl⟩
end
end Go.Proofs.YtcpgpiabeimefaaGreatDoor
set_option linter.unusedVariables false
set_option maxRecDepth 100000
set_option maxHeartbeats 4000000
namespace Go.Proofs.YtcpgpiabeimefaaGreatDoor
open Go.RowKit
def rfC (s : ByteArray) (names : List Bs) (ts : List Tok) (a : Nat) (err pl : Int) : List AV := [yff s, ybe names, .sl 4 (ts.map yel), i64 a, i64 err, i64 pl]
def rfH (s : ByteArray) (names : List Bs) (ts : List Tok) (a : Nat) (err pl : Int) : List (Nat × Option LObj) := [(1001, some (.cells (rfC s names ts a err pl)))]
section
variable {s : ByteArray} {names : List Bs} {ts : List Tok} {a : Nat} {err pl : Int}
end
end Go.Proofs.YtcpgpiabeimefaaGreatDoor
set_option linter.unusedVariables false
set_option maxRecDepth 100000
set_option maxHeartbeats 4000000
namespace Go.Proofs.YtcpgpiabeimefaaGreatDoor
open Go.RowKit
theorem rname_con (w : Bs) (hw : w.length ≤ 9223372036854775807) : Con Tryz.prog 53 [yff (ba w)] (yga (nmW w)) :=
  ydq ⟨_, Tryz.func53, rfl, rfl⟩ fun w0 us ok hok hr => by
    obtain ⟨u, rfl, h1⟩ := relAll1 hr
    cases h1
    refine (rname_any (ba w) w0 (by rw [yaw]; exact hw)).mono ?_
    rintro e w' ⟨rfl, rfl⟩
    exact ⟨rfl, Below.refl _ _⟩
theorem rindex_con (l : List Bs) (w : Bs) (hl : l.length ≤ 1000) : Con Tryz.prog 54 [ybe l, yff (ba w)] (i64 (match yhc l w with | some i => (i : Int) | none => -1)) := by
  refine ybt Tryz.func54 rfl rfl Tryz.ntmps54 Tryz.results54 rfl rfl ?_
  (repeat (first | refine zI ?_ | refine zL ?_ | refine zC ?_ | refine yaf ?_ | refine yae ?_ | refine zR ?_ | refine zD ?_ | refine zK ?_ | refine zB ?_ | refine zA ?_ | refine zS ?_ | refine zU ?_ | refine zV ?_ | refine zF ?_ | with_reducible refine yab ?_ | with_reducible refine yad ?_ | refine yaa ?_ | refine yac ?_ | refine yag ?_ | refine zT ?_ | refine zE ?_ | refine zX ?_))
  refine yjj (α := Nat) (fun k => [(5, i64 (k : Int)), (1, yff (ba w)), (0, ybe l)]) (fun k => []) (fun k => l.length - k) (fun k => k ≤ l.length ∧ yhc l w = (yhc (l.drop k) w).map (· + k)) 0 ⟨by omega, by simp⟩ (by (repeat (first | exact yca | refine ybm rfl ?_))) (yar) ?_
  rintro k ⟨hk, hinv⟩
  (repeat (first | refine zI ?_ | refine zL ?_ | refine zC ?_ | refine yaf ?_ | refine yae ?_ | refine zR ?_ | refine zD ?_ | refine zK ?_ | refine zB ?_ | refine zA ?_ | refine zS ?_ | refine zU ?_ | refine zV ?_ | refine zF ?_ | with_reducible refine yab ?_ | with_reducible refine yad ?_ | refine yaa ?_ | refine yac ?_ | refine yag ?_ | refine zT ?_ | refine zE ?_ | refine zX ?_))
  refine yaq rfl (fun h2 => ?_) (fun h2 => ?_)
  · have h2 : k < l.length := by simpa using h2
    obtain ⟨x, hx⟩ := yin h2
    (repeat (first | refine zI ?_ | refine zL ?_ | refine zC ?_ | refine yaf ?_ | refine yae ?_ | refine zR ?_ | refine zD ?_ | refine zK ?_ | refine zB ?_ | refine zA ?_ | refine zS ?_ | refine zU ?_ | refine zV ?_ | refine zF ?_ | with_reducible refine yab ?_ | with_reducible refine yad ?_ | refine yaa ?_ | refine yac ?_ | refine yag ?_ | refine zT ?_ | refine zE ?_ | refine zX ?_))
    refine yaq rfl (fun h3 => ?_) (fun h3 => ?_)
    · have h3 : x = w := by simpa [yeu] using h3
      (repeat (first | refine zI ?_ | refine zL ?_ | refine zC ?_ | refine yaf ?_ | refine yae ?_ | refine zR ?_ | refine zD ?_ | refine zK ?_ | refine zB ?_ | refine zA ?_ | refine zS ?_ | refine zU ?_ | refine zV ?_ | refine zF ?_ | with_reducible refine yab ?_ | with_reducible refine yad ?_ | refine yaa ?_ | refine yac ?_ | refine yag ?_ | refine zT ?_ | refine zE ?_ | refine zX ?_))
      refine yau ?_; refine ⟨_, rfl, ?_⟩
      exact ygt (by rw [idx_here hinv hx h3])
    · have h3 : x ≠ w := by simpa [yeu] using h3
      (repeat (first | refine zI ?_ | refine zL ?_ | refine zC ?_ | refine yaf ?_ | refine yae ?_ | refine zR ?_ | refine zD ?_ | refine zK ?_ | refine zB ?_ | refine zA ?_ | refine zS ?_ | refine zU ?_ | refine zV ?_ | refine zF ?_ | with_reducible refine yab ?_ | with_reducible refine yad ?_ | refine yaa ?_ | refine yac ?_ | refine yag ?_ | refine zT ?_ | refine zE ?_ | refine zX ?_))
      exact rnd (k + 1) ⟨by omega, idx_next hinv hx h3⟩ (by omega) (by (repeat (first | exact yca | refine ybm rfl ?_))) yar
  · have h2 : l.length ≤ k := by simpa using h2
    (repeat (first | refine zI ?_ | refine zL ?_ | refine zC ?_ | refine yaf ?_ | refine yae ?_ | refine zR ?_ | refine zD ?_ | refine zK ?_ | refine zB ?_ | refine zA ?_ | refine zS ?_ | refine zU ?_ | refine zV ?_ | refine zF ?_ | with_reducible refine yab ?_ | with_reducible refine yad ?_ | refine yaa ?_ | refine yac ?_ | refine yag ?_ | refine zT ?_ | refine zE ?_ | refine zX ?_))
    refine yau ?_; refine ⟨_, rfl, ?_⟩
    exact ygt (by rw [idx_end hinv h2])
theorem rgood_con (names : List Bs) (hl : names.length ≤ 1000) (hn : ∀ x ∈ names, x.length ≤ 1000) : Con Tryz.prog 27 [ybe names] (yga (ydw nmW names)) := by
  refine ybt Tryz.func27 rfl rfl Tryz.ntmps27 Tryz.results27 rfl rfl ?_
  (repeat (first | refine zI ?_ | refine zL ?_ | refine zC ?_ | refine yaf ?_ | refine yae ?_ | refine zR ?_ | refine zD ?_ | refine zK ?_ | refine zB ?_ | refine zA ?_ | refine zS ?_ | refine zU ?_ | refine zV ?_ | refine zF ?_ | with_reducible refine yab ?_ | with_reducible refine yad ?_ | refine yaa ?_ | refine yac ?_ | refine yag ?_ | refine zT ?_ | refine zE ?_ | refine zX ?_))
  refine yaq rfl (fun h1 => ?_) (fun h1 => ?_)
  · have h1 : 6 < names.length := by simp at h1; omega
    (repeat (first | refine zI ?_ | refine zL ?_ | refine zC ?_ | refine yaf ?_ | refine yae ?_ | refine zR ?_ | refine zD ?_ | refine zK ?_ | refine zB ?_ | refine zA ?_ | refine zS ?_ | refine zU ?_ | refine zV ?_ | refine zF ?_ | with_reducible refine yab ?_ | with_reducible refine yad ?_ | refine yaa ?_ | refine yac ?_ | refine yag ?_ | refine zT ?_ | refine zE ?_ | refine zX ?_))
    refine yau ?_; refine ⟨_, rfl, ?_⟩
    exact ybu (by simp [ydw, show ¬ names.length ≤ 6 by omega])
  have h1 : names.length ≤ 6 := by simp at h1; omega
  (repeat (first | refine zI ?_ | refine zL ?_ | refine zC ?_ | refine yaf ?_ | refine yae ?_ | refine zR ?_ | refine zD ?_ | refine zK ?_ | refine zB ?_ | refine zA ?_ | refine zS ?_ | refine zU ?_ | refine zV ?_ | refine zF ?_ | with_reducible refine yab ?_ | with_reducible refine yad ?_ | refine yaa ?_ | refine yac ?_ | refine yag ?_ | refine zT ?_ | refine zE ?_ | refine zX ?_))
  refine yjj (α := Nat) (fun k => [(3, i64 (k : Int)), (0, ybe names)]) (fun k => []) (fun k => names.length - k) (fun k => k ≤ names.length ∧ (names.take k).all nmW = true ∧ (names.take k).Nodup) 0 ⟨by omega, by simp, by simp⟩ (by (repeat (first | exact yca | refine ybm rfl ?_))) (yar) ?_
  rintro k ⟨hk, ha, hd⟩
  (repeat (first | refine zI ?_ | refine zL ?_ | refine zC ?_ | refine yaf ?_ | refine yae ?_ | refine zR ?_ | refine zD ?_ | refine zK ?_ | refine zB ?_ | refine zA ?_ | refine zS ?_ | refine zU ?_ | refine zV ?_ | refine zF ?_ | with_reducible refine yab ?_ | with_reducible refine yad ?_ | refine yaa ?_ | refine yac ?_ | refine yag ?_ | refine zT ?_ | refine zE ?_ | refine zX ?_))
  refine yaq rfl (fun h2 => ?_) (fun h2 => ?_)
  · have h2 : k < names.length := by simpa using h2
    obtain ⟨x, hx⟩ := yin h2
    have hxl := hn x (List.mem_of_getElem? hx)
    (repeat (first | refine zI ?_ | refine zL ?_ | refine zC ?_ | refine yaf ?_ | refine yae ?_ | refine zR ?_ | refine zD ?_ | refine zK ?_ | refine zB ?_ | refine zA ?_ | refine zS ?_ | refine zU ?_ | refine zV ?_ | refine zF ?_ | with_reducible refine yab ?_ | with_reducible refine yad ?_ | refine yaa ?_ | refine yac ?_ | refine yag ?_ | refine zT ?_ | refine zE ?_ | refine zX ?_ | refine yal rfl rfl (rname_con x (by omega)) rfl rfl ?_))
    refine ych 19 rfl (fun h3 => ?_) (fun h3 => ?_)
    · (repeat (first | refine zI ?_ | refine zL ?_ | refine zC ?_ | refine yaf ?_ | refine yae ?_ | refine zR ?_ | refine zD ?_ | refine zK ?_ | refine zB ?_ | refine zA ?_ | refine zS ?_ | refine zU ?_ | refine zV ?_ | refine zF ?_ | with_reducible refine yab ?_ | with_reducible refine yad ?_ | refine yaa ?_ | refine yac ?_ | refine yag ?_ | refine zT ?_ | refine zE ?_ | refine zX ?_))
      refine yau ?_; refine ⟨_, rfl, ?_⟩
      exact ybu (good_false1 hx (by simpa using h3)).symm
    · (repeat (first | refine zI ?_ | refine zL ?_ | refine zC ?_ | refine yaf ?_ | refine yae ?_ | refine zR ?_ | refine zD ?_ | refine zK ?_ | refine zB ?_ | refine zA ?_ | refine zS ?_ | refine zU ?_ | refine zV ?_ | refine zF ?_ | with_reducible refine yab ?_ | with_reducible refine yad ?_ | refine yaa ?_ | refine yac ?_ | refine yag ?_ | refine zT ?_ | refine zE ?_ | refine zX ?_ | refine L_slslice tok rfl rfl rfl rfl (by show (0 : Int) ≤ 0; omega) (by show (0 : Int) ≤ (k : Int); omega) (by show (k : Int) ≤ ((List.map _ names).length : Int); rw [List.length_map]; omega) rfl rfl ?_))
      rw [show List.drop (((none : Option Int)).getD 0).toNat (List.take ((some (k : Int)).getD ((names.map fun x => [yff (ba x)]).length : Int)).toNat (names.map fun x => [yff (ba x)])) = (names.take k).map (fun x => [yff (ba x)]) by simp [List.map_take]]
      (repeat (first | refine zI ?_ | refine zL ?_ | refine zC ?_ | refine yaf ?_ | refine yae ?_ | refine zR ?_ | refine zD ?_ | refine zK ?_ | refine zB ?_ | refine zA ?_ | refine zS ?_ | refine zU ?_ | refine zV ?_ | refine zF ?_ | with_reducible refine yab ?_ | with_reducible refine yad ?_ | refine yaa ?_ | refine yac ?_ | refine yag ?_ | refine zT ?_ | refine zE ?_ | refine zX ?_ | refine yal rfl rfl (rindex_con (names.take k) x (by rw [List.length_take]; omega)) rfl rfl ?_))
      cases hi : yhc (names.take k) x with
      | some i =>
        have h4 : (names.take k).contains x = true := by simpa using idxW_mem hi
        (repeat (first | refine zI ?_ | refine zL ?_ | refine zC ?_ | refine yaf ?_ | refine yae ?_ | refine zR ?_ | refine zD ?_ | refine zK ?_ | refine zB ?_ | refine zA ?_ | refine zS ?_ | refine zU ?_ | refine zV ?_ | refine zF ?_ | with_reducible refine yab ?_ | with_reducible refine yad ?_ | refine yaa ?_ | refine yac ?_ | refine yag ?_ | refine zT ?_ | refine zE ?_ | refine zX ?_))
        refine yau ?_; refine ⟨_, rfl, ?_⟩
        exact ybu (good_false2 hx h4).symm
      | none =>
        have h4 : (names.take k).contains x = false := by simpa using idx_not hi
        (repeat (first | refine zI ?_ | refine zL ?_ | refine zC ?_ | refine yaf ?_ | refine yae ?_ | refine zR ?_ | refine zD ?_ | refine zK ?_ | refine zB ?_ | refine zA ?_ | refine zS ?_ | refine zU ?_ | refine zV ?_ | refine zF ?_ | with_reducible refine yab ?_ | with_reducible refine yad ?_ | refine yaa ?_ | refine yac ?_ | refine yag ?_ | refine zT ?_ | refine zE ?_ | refine zX ?_))
        have := take_good hx ha hd (by simpa using h3) h4
        exact rnd (k + 1) ⟨by omega, this.1, this.2⟩ (by omega) (by (repeat (first | exact yca | refine ybm rfl ?_))) yar
  · have h2 : names.length ≤ k := by simpa using h2
    rw [List.take_of_length_le h2] at ha hd
    (repeat (first | refine zI ?_ | refine zL ?_ | refine zC ?_ | refine yaf ?_ | refine yae ?_ | refine zR ?_ | refine zD ?_ | refine zK ?_ | refine zB ?_ | refine zA ?_ | refine zS ?_ | refine zU ?_ | refine zV ?_ | refine zF ?_ | with_reducible refine yab ?_ | with_reducible refine yad ?_ | refine yaa ?_ | refine yac ?_ | refine yag ?_ | refine zT ?_ | refine zE ?_ | refine zX ?_))
    refine yau ?_; refine ⟨_, rfl, ?_⟩
    exact ybu (by simp only [ydw, ha, decide_eq_true hd, decide_eq_true h1]; rfl)
section
variable {s : ByteArray} {names : List Bs} {ts : List Tok} {a : Nat} {err pl : Int}
theorem yfg.drop (h : yfg s ts) (a : Nat) : yfg s (ts.drop a) := h.suf (List.drop_suffix a ts)
end
end Go.Proofs.YtcpgpiabeimefaaGreatDoor
