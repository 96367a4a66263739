/- Part 16 of the texts under ExprParses,ExprIsStable,ExprReadsBack,ExprIgnoresBrackets,ExprFormats,ExprBracketsEverything: joined, with what it needs alone. -/
import Derived.Test.YtcpgpiabeimefaaGreatDoorP10
import Derived.Test.YtcpgpiabeimefaaGreatDoorP13
import Derived.Test.YtcpgpiabeimefaaGreatDoorP15
set_option linter.unusedVariables false
set_option maxRecDepth 100000
set_option maxHeartbeats 4000000
namespace Go.Proofs.YtcpgpiabeimefaaGreatDoor
open Go.RowKit
def tsOf (ts : List Tok) (n : Nat) : List Tok := ts.drop (ts.length - n)
theorem tsOf_suf {ts ts' : List Tok} (h : ts' <:+ ts) : tsOf ts ts'.length = ts' := by
  obtain ⟨p, rfl⟩ := h
  simp [tsOf]
theorem suf_map {g : Tok → PW} {ts : List Tok} {r : List PW} (h : r <:+ ts.map g) : tsOf ts r.length <:+ ts ∧ (tsOf ts r.length).map g = r := by
  refine ⟨List.drop_suffix _ _, ?_⟩
  obtain ⟨p, hp⟩ := h
  have hl : p.length + r.length = ts.length := by have := congrArg List.length hp; simpa using this
  rw [tsOf, List.map_drop, ← hp, List.drop_append]
  have e : ts.length - r.length = p.length := by omega
  rw [e]
  simp
theorem ydl.suf {s : ByteArray} {ts ts' : List Tok} (h : ydl s ts) (hs : ts' <:+ ts) : ydl s ts' := fun t ht => h t (hs.subset ht)
def EndsR (rs : List ResultVar) (s : ByteArray) (names : List Bs) (us : List Value) (ts : List Tok) (res : Res) (e : Exit) (st : SS) : Prop := match res with
  | .ok x rest => EndsM TT rs (yay x) (yaq (rdH s (tsOf ts rest.length) names us)) e st
  | .bad c rest => EndsP (failP (yez s (tsOf ts rest.length)) c) e st
def RdRes (f : FuncId) (args : List AV) (s : ByteArray) (names : List Bs) (us : List Value) (ts : List Tok) (res : Res) : Prop := match res with
  | .ok x rest => ConM Tryz.prog f (.lp 1001 0 :: args) (yaq (rdH s ts names us)) (yay x) (yaq (rdH s (tsOf ts rest.length) names us))
  | .bad c rest => ConP Tryz.prog f (.lp 1001 0 :: args) (yaq (rdH s ts names us)) (failP (yez s (tsOf ts rest.length)) c)
theorem yby {f : FuncId} {fn : Func} {c : Code} {N : Nat} {rs : List ResultVar} {args : List AV} {s : ByteArray} {names : List Bs} {us : List Value} {ts : List Tok} {res : Res} (hf : Tryz.prog.funcs[f]? = some fn) (hn : (fn.name == "runtime.NumGoroutine") = false) (hb : fn.body = some c) (hN : fn.ntmps = N) (hrs : fn.results = rs.toArray) (hlen : (Nat.ble (args.length + 1) N && Nat.ble N 1000000) = true) (hM : Nat.ble N 1001 = true)
    (h : A Tryz.prog N c (EndsR rs s names us ts res) (S (enumF 0 (.lp 1001 0 :: args)) (rdH s ts names us))) : RdRes f args s names us ts res := by
  cases res with
  | ok x rest => exact yaz tok hf hn hb hN hrs hlen (rd_cl hM) h
  | bad c rest => exact conP_of hf hn hb hN hlen h
theorem ydy {rs : List ResultVar} {s : ByteArray} {names : List Bs} {us : List Value} {ts ts' : List Tok} {x : List Tm} {rest : List PW} {t : List (Nat × AV)} {h : List (Nat × Option LObj)} {y : AV} (hts : ts' <:+ ts) (hr : ts'.length = rest.length) (hx : resAT TT (S t h) rs = some y) (hy : y = yay x) (hh : yaq h 1001 = some (rdO s ts' names us)) : EndsR rs s names us ts (.ok x rest) .ret (S t h) := by
  subst hy
  refine ⟨_, hx, yav _, ?_⟩
  rw [← hr, tsOf_suf hts]
  exact yap (yai hh yan)
theorem var_rest {nm : Bs → Bool} {names : List Bs} {op c : Int} {ts rest : List PW} (h : varR nm names op ts = .bad c rest) : rest = ts := by
  unfold varR at h
  cases ts with
  | nil => simp only [Res.bad.injEq] at h; exact h.2.symm
  | cons t r =>
    simp only at h
    split at h
    · split at h
      · cases h
      · simp only [Res.bad.injEq] at h; exact h.2.symm
    · simp only [Res.bad.injEq] at h; exact h.2.symm
theorem var_ok {nm : Bs → Bool} {names : List Bs} {s : ByteArray} {op : Int} {ts : List Tok} {x : List Tm} {rest : List PW} (h : varR nm names op (ts.map (pwT s)) = .ok x rest) : ∃ t r i, ts = t :: r ∧ nm (pwT s t).w = true ∧ idxW names (pwT s t).w = some i ∧ x = [(op, (i : Int))] ∧ rest = r.map (pwT s) := by
  unfold varR at h
  cases ts with
  | nil => cases h
  | cons t r =>
    simp only [List.map_cons] at h
    split at h
    · rename_i hn
      split at h
      · rename_i i hi
        simp only [Res.ok.injEq] at h
        exact ⟨t, r, i, rfl, hn, hi, h.1.symm, h.2.symm⟩
      · cases h
    · cases h
theorem ycu {s : ByteArray} {ts ts' : List Tok} {c : Int} {rest : List PW} (hts : ts' <:+ ts) (hr : ts'.length = rest.length) : failP (yez s ts') c = failP (yez s (tsOf ts rest.length)) c := by
  rw [← hr, tsOf_suf hts]
section
variable {s : ByteArray} {ts : List Tok} {names : List Bs} {us : List Value}
theorem word_len {t : Tok} {r : List Tok} (h : ydl s (t :: r)) (hs : s.size ≤ 1000000000) : (pwT s t).w.length ≤ 1000000000 := by
  simp only [pwT, yal, List.length_take, List.length_drop]; have := (h t (by simp)).2.1; omega
theorem variable_ok {t : Tok} {r : List Tok} {x : Nat} (h : ydl s (t :: r)) (hl : names.length ≤ 1000) (hs : s.size ≤ 1000000000) (hw : nmW (pwT s t).w = true) (hx : idxW names (pwT s t).w = some x) : ConM Tryz.prog 120 [.lp 1001 0] (yaq (rdH s (t :: r) names us)) (i64 x) (yaq (rdH s r names us)) := by
  have hk := (h t (by simp)).2.2 hw
  have hwl := word_len h hs
  refine yaz tok Tryz.func120 rfl rfl Tryz.ntmps120 Tryz.results120 rfl (rd_cl rfl) ?_
  show A _ _ _ _ (S _ _)
  (repeat (first | refine zI ?_ | refine zL ?_ | refine zC ?_ | refine yag ?_ | refine yaf ?_ | refine zR ?_ | refine zD ?_ | refine zK ?_ | refine zB ?_ | refine zA ?_ | refine zS ?_ | refine zU ?_ | refine zV ?_ | refine zF ?_ | with_reducible refine yab ?_ | with_reducible refine yad ?_ | refine yaa ?_ | refine yac ?_ | refine yae ?_ | refine zT ?_ | refine zE ?_ | refine zX ?_ | refine ycr 1001 (ycx h) rfl rfl rfl rfl rfl rfl rfl rfl rfl rfl ?_ | refine ycr 1001 (yei h) rfl rfl rfl rfl rfl rfl rfl rfl rfl rfl ?_))
  refine ych 10 rfl (fun h2 => ?_) (fun h2 => ?_)
  · simp [headK, hk] at h2
  (repeat (first | refine zI ?_ | refine zL ?_ | refine zC ?_ | refine yag ?_ | refine yaf ?_ | refine zR ?_ | refine zD ?_ | refine zK ?_ | refine zB ?_ | refine zA ?_ | refine zS ?_ | refine zU ?_ | refine zV ?_ | refine zF ?_ | with_reducible refine yab ?_ | with_reducible refine yad ?_ | refine yaa ?_ | refine yac ?_ | refine yae ?_ | refine zT ?_ | refine zE ?_ | refine zX ?_ | refine yao rfl rfl rfl rfl ?_ | refine yak rfl rfl (name_con (pwT s t).w (by omega)) rfl rfl ?_))
  refine yam rfl (fun h3 => ?_) (fun h3 => ?_)
  · rw [hw] at h3; cases h3
  (repeat (first | refine zI ?_ | refine zL ?_ | refine zC ?_ | refine yag ?_ | refine yaf ?_ | refine zR ?_ | refine zD ?_ | refine zK ?_ | refine zB ?_ | refine zA ?_ | refine zS ?_ | refine zU ?_ | refine zV ?_ | refine zF ?_ | with_reducible refine yab ?_ | with_reducible refine yad ?_ | refine yaa ?_ | refine yac ?_ | refine yae ?_ | refine zT ?_ | refine zE ?_ | refine zX ?_ | refine yao rfl rfl rfl rfl ?_ | refine yak rfl rfl (index_con names (pwT s t).w hl) rfl rfl ?_))
  rw [hx]
  (repeat (first | refine zI ?_ | refine zL ?_ | refine zC ?_ | refine yag ?_ | refine yaf ?_ | refine zR ?_ | refine zD ?_ | refine zK ?_ | refine zB ?_ | refine zA ?_ | refine zS ?_ | refine zU ?_ | refine zV ?_ | refine zF ?_ | with_reducible refine yab ?_ | with_reducible refine yad ?_ | refine yaa ?_ | refine yac ?_ | refine yae ?_ | refine zT ?_ | refine zE ?_ | refine zX ?_ | refine ycr 1001 (take_con t r) rfl rfl rfl rfl rfl rfl rfl rfl rfl rfl ?_))
  refine yar ?_
  exact ⟨_, rfl, yav _, yap (yai rfl yan)⟩
theorem variable_bad {c : Int} {rest : List PW} {op : Int} (h : ydl s ts) (hl : names.length ≤ 1000) (hs : s.size ≤ 1000000000) (hv : varR nmW names op (ts.map (pwT s)) = .bad c rest) : ConP Tryz.prog 120 [.lp 1001 0] (yaq (rdH s ts names us)) (failP (yez s ts) c) := by
  refine conP_of Tryz.func120 rfl rfl Tryz.ntmps120 rfl ?_
  show A _ _ _ _ (S _ _)
  (repeat (first | with_reducible refine yad ?_ | with_reducible refine yab ?_ | refine yac ?_ | refine yaf ?_ | refine yaa ?_)); refine yah (lf := lfT) rfl ?_
  (repeat (first | refine zI ?_ | refine zL ?_ | refine zC ?_ | refine zK ?_ | refine zB ?_ | refine zA ?_ | refine zS ?_ | refine zU ?_ | refine zV ?_ | refine zF ?_ | refine zX ?_ | refine yag ?_))
  (repeat (first | with_reducible refine yad ?_ | with_reducible refine yab ?_ | refine yac ?_ | refine yaf ?_ | refine yaa ?_)); refine yah (lf := lfT) rfl ?_
  (repeat (first | refine zI ?_ | refine zL ?_ | refine zC ?_ | refine zK ?_ | refine zB ?_ | refine zA ?_ | refine zS ?_ | refine zU ?_ | refine zV ?_ | refine zF ?_ | refine zX ?_ | refine yag ?_ | refine ycr 1001 (ycx h) rfl rfl rfl rfl rfl rfl rfl rfl rfl rfl ?_))
  (repeat (first | with_reducible refine yad ?_ | with_reducible refine yab ?_ | refine yac ?_ | refine yaf ?_ | refine yaa ?_)); refine yah (lf := lfT) rfl ?_
  (repeat (first | refine zI ?_ | refine zL ?_ | refine zC ?_ | refine zK ?_ | refine zB ?_ | refine zA ?_ | refine zS ?_ | refine zU ?_ | refine zV ?_ | refine zF ?_ | refine zX ?_ | refine yag ?_ | refine ycr 1001 (yei h) rfl rfl rfl rfl rfl rfl rfl rfl rfl rfl ?_))
  cases ts with
  | nil =>
    simp only [List.map_nil, varR, Res.bad.injEq] at hv
    obtain ⟨rfl, _⟩ := hv
    (repeat (first | refine zI ?_ | refine zL ?_ | refine zC ?_ | refine zK ?_ | refine zB ?_ | refine zA ?_ | refine zS ?_ | refine zU ?_ | refine zV ?_ | refine zF ?_ | refine zX ?_ | refine yag ?_))
    (repeat (first | with_reducible refine yad ?_ | with_reducible refine yab ?_ | refine yac ?_ | refine yaf ?_ | refine yaa ?_))
    refine zT ?_
    (repeat (first | with_reducible refine yad ?_ | with_reducible refine yab ?_ | refine yac ?_ | refine yaf ?_ | refine yaa ?_)); refine ybd (lf := lfT) 1 rfl rfl rfl ?_
    (repeat (first | refine zI ?_ | refine zL ?_ | refine zC ?_ | refine zK ?_ | refine zB ?_ | refine zA ?_ | refine zS ?_ | refine zU ?_ | refine zV ?_ | refine zF ?_ | refine zX ?_ | refine yag ?_))
    exact ⟨rfl, D_rd 1001 (fail_con 4) rfl rfl rfl rfl rfl⟩
  | cons t r =>
    have hwl := word_len h hs
    refine ych 10 rfl (fun h2 => ?_) (fun h2 => ?_)
    · have hn : nmW (pwT s t).w = false := by
        cases hq : nmW (pwT s t).w with
        | false => rfl
        | true => have := (h t (by simp)).2.2 hq; simp [headK, this] at h2
      simp only [List.map_cons, varR, hn, Bool.false_eq_true, if_false, Res.bad.injEq] at hv
      obtain ⟨rfl, _⟩ := hv
      (repeat (first | refine zI ?_ | refine zL ?_ | refine zC ?_ | refine zK ?_ | refine zB ?_ | refine zA ?_ | refine zS ?_ | refine zU ?_ | refine zV ?_ | refine zF ?_ | refine zX ?_ | refine yag ?_))
      (repeat (first | with_reducible refine yad ?_ | with_reducible refine yab ?_ | refine yac ?_ | refine yaf ?_ | refine yaa ?_))
      refine zT ?_
      (repeat (first | with_reducible refine yad ?_ | with_reducible refine yab ?_ | refine yac ?_ | refine yaf ?_ | refine yaa ?_)); refine ybd (lf := lfT) 1 rfl rfl rfl ?_
      (repeat (first | refine zI ?_ | refine zL ?_ | refine zC ?_ | refine zK ?_ | refine zB ?_ | refine zA ?_ | refine zS ?_ | refine zU ?_ | refine zV ?_ | refine zF ?_ | refine zX ?_ | refine yag ?_))
      exact ⟨rfl, D_rd 1001 (fail_con 4) rfl rfl rfl rfl rfl⟩
    (repeat (first | refine zI ?_ | refine zL ?_ | refine zC ?_ | refine zK ?_ | refine zB ?_ | refine zA ?_ | refine zS ?_ | refine zU ?_ | refine zV ?_ | refine zF ?_ | refine zX ?_ | refine yag ?_ | refine yak rfl rfl (name_con (pwT s t).w (by omega)) rfl rfl ?_))
    (repeat (first | with_reducible refine yad ?_ | with_reducible refine yab ?_ | refine yac ?_ | refine yaf ?_ | refine yaa ?_))
    refine yam rfl (fun h3 => ?_) (fun h3 => ?_)
    · have hn : nmW (pwT s t).w = false := by simpa using h3
      simp only [List.map_cons, varR, hn, Bool.false_eq_true, if_false, Res.bad.injEq] at hv
      obtain ⟨rfl, _⟩ := hv
      (repeat (first | with_reducible refine yad ?_ | with_reducible refine yab ?_ | refine yac ?_ | refine yaf ?_ | refine yaa ?_)); refine ybd (lf := lfT) 1 rfl rfl rfl ?_
      (repeat (first | refine zI ?_ | refine zL ?_ | refine zC ?_ | refine zK ?_ | refine zB ?_ | refine zA ?_ | refine zS ?_ | refine zU ?_ | refine zV ?_ | refine zF ?_ | refine zX ?_ | refine yag ?_))
      exact ⟨rfl, D_rd 1001 (fail_con 4) rfl rfl rfl rfl rfl⟩
    have hn : nmW (pwT s t).w = true := by simpa using h3
    simp only [List.map_cons, varR, hn, if_true] at hv
    (repeat (first | with_reducible refine yad ?_ | with_reducible refine yab ?_ | refine yac ?_ | refine yaf ?_ | refine yaa ?_)); refine yah (lf := lfT) rfl ?_
    (repeat (first | refine zI ?_ | refine zL ?_ | refine zC ?_ | refine zK ?_ | refine zB ?_ | refine zA ?_ | refine zS ?_ | refine zU ?_ | refine zV ?_ | refine zF ?_ | refine zX ?_ | refine yag ?_ | refine yao rfl rfl rfl rfl ?_ | refine yak rfl rfl (index_con names (pwT s t).w hl) rfl rfl ?_))
    cases hx : idxW names (pwT s t).w with
    | some x => rw [hx] at hv; cases hv
    | none =>
      rw [hx] at hv
      simp only [Res.bad.injEq] at hv
      obtain ⟨rfl, _⟩ := hv
      (repeat (first | refine zI ?_ | refine zL ?_ | refine zC ?_ | refine zK ?_ | refine zB ?_ | refine zA ?_ | refine zS ?_ | refine zU ?_ | refine zV ?_ | refine zF ?_ | refine zX ?_ | refine yag ?_))
      (repeat (first | with_reducible refine yad ?_ | with_reducible refine yab ?_ | refine yac ?_ | refine yaf ?_ | refine yaa ?_)); refine yah (lf := lfT) rfl ?_
      (repeat (first | refine zI ?_ | refine zL ?_ | refine zC ?_ | refine zK ?_ | refine zB ?_ | refine zA ?_ | refine zS ?_ | refine zU ?_ | refine zV ?_ | refine zF ?_ | refine zX ?_ | refine yag ?_))
      (repeat (first | with_reducible refine yad ?_ | with_reducible refine yab ?_ | refine yac ?_ | refine yaf ?_ | refine yaa ?_))
      refine zT ?_
      (repeat (first | with_reducible refine yad ?_ | with_reducible refine yab ?_ | refine yac ?_ | refine yaf ?_ | refine yaa ?_)); refine ybd (lf := lfT) 1 rfl rfl rfl ?_
      (repeat (first | refine zI ?_ | refine zL ?_ | refine zC ?_ | refine zK ?_ | refine zB ?_ | refine zA ?_ | refine zS ?_ | refine zU ?_ | refine zV ?_ | refine zF ?_ | refine zX ?_ | refine yag ?_))
      exact ⟨rfl, D_rd 1001 (fail_con 5) rfl rfl rfl rfl rfl⟩
end
end Go.Proofs.YtcpgpiabeimefaaGreatDoor
set_option linter.unusedVariables false
set_option maxRecDepth 100000
set_option maxHeartbeats 4000000
namespace Go.Proofs.YtcpgpiabeimefaaGreatDoor
open Go.RowKit
def rfC (s : ByteArray) (names : List Bs) (ts : List Tok) (a : Nat) (err pl : Int) : List AV := [yey s, ybj names, .sl 4 (ts.map yfo), i64 a, i64 err, i64 pl]
def rfH (s : ByteArray) (names : List Bs) (ts : List Tok) (a : Nat) (err pl : Int) : List (Nat × Option LObj) := [(1001, some (.cells (rfC s names ts a err pl)))]
def rfW (s : ByteArray) (ts : List Tok) (a : Nat) (err : Int) : Bs := if err = 0 then ybg ((ts.drop a).map (pwT s)) else []
def rfK (ts : List Tok) (a : Nat) (err : Int) : Nat := if err = 0 then headK (ts.drop a) else 0
theorem ydw {s : ByteArray} {names : List Bs} {ts : List Tok} {a a' : Nat} {e e' p p' : Int} {N : Nat} (hN : Nat.ble N 1001 = true) : ∀ id o, yaq (rfH s names ts a' e' p') id = some o → isC o = true → N ≤ id ∧ ∃ o', yaq (rfH s names ts a e p) id = some o' ∧ isC o' = true := by
  intro id o ho hc
  simp only [rfH, yaq] at ho ⊢
  cases h1 : Nat.beq id 1001 with
  | true => have := Nat.eq_of_beq_eq_true h1; exact ⟨by simp only [Nat.ble_eq] at hN; omega, _, rfl, rfl⟩
  | false => simp only [h1] at ho; cases ho
section
variable {s : ByteArray} {names : List Bs} {ts : List Tok} {a : Nat} {err pl : Int}
theorem drop_here (h : a < ts.length) : ∃ t, ts[a]? = some t ∧ ts.drop a = t :: ts.drop (a + 1) := by
  obtain ⟨t, ht⟩ := getN' h
  exact ⟨t, ht, drop_at' ht⟩
theorem tok_at (h : ydl s ts) {t : Tok} (ht : ts[a]? = some t) : t.from_ < t.to ∧ t.to ≤ s.size := by
  obtain ⟨h1, h2, _⟩ := h t (List.mem_of_getElem? ht)
  exact ⟨h1, h2⟩
theorem ycl (h : ydl s ts) : Con Tryz.prog 100 [.dp (rfC s names ts a err pl) 0] (yey (ba (rfW s ts a err))) := by
  refine ybw Tryz.func100 rfl rfl Tryz.ntmps100 Tryz.results100 rfl rfl ?_
  (repeat (first | with_reducible refine yad ?_ | with_reducible refine yab ?_ | refine yac ?_ | refine yaf ?_ | refine yaa ?_))
  refine zR ?_
  (repeat (first | refine zI ?_ | refine zL ?_ | refine zC ?_ | refine zK ?_ | refine zB ?_ | refine zA ?_ | refine zS ?_ | refine zU ?_ | refine zV ?_ | refine zF ?_ | refine zX ?_ | refine yag ?_))
  (repeat (first | with_reducible refine yad ?_ | with_reducible refine yab ?_ | refine yac ?_ | refine yaf ?_ | refine yaa ?_))
  refine zD ?_
  (repeat (first | refine zI ?_ | refine zL ?_ | refine zC ?_ | refine zK ?_ | refine zB ?_ | refine zA ?_ | refine zS ?_ | refine zU ?_ | refine zV ?_ | refine zF ?_ | refine zX ?_ | refine yag ?_ | refine yaw (ycp rfl) rfl rfl ?_))
  refine ych 8 rfl (fun h2 => ?_) (fun h2 => ?_)
  · have h2 : err ≠ 0 := by simpa using h2
    (repeat (first | refine zI ?_ | refine zL ?_ | refine zC ?_ | refine yag ?_ | refine yaf ?_ | refine zR ?_ | refine zD ?_ | refine zK ?_ | refine zB ?_ | refine zA ?_ | refine zS ?_ | refine zU ?_ | refine zV ?_ | refine zF ?_ | with_reducible refine yab ?_ | with_reducible refine yad ?_ | refine yaa ?_ | refine yac ?_ | refine yae ?_ | refine zT ?_ | refine zE ?_ | refine zX ?_ | refine yaw (ycp rfl) rfl rfl ?_))
    refine yar ?_; refine ⟨_, rfl, ?_⟩
    rw [rfW, if_neg h2]
    exact Frz.pure
  have h2 : err = 0 := by simpa using h2
  (repeat (first | refine zI ?_ | refine zL ?_ | refine zC ?_ | refine yag ?_ | refine yaf ?_ | refine zR ?_ | refine zD ?_ | refine zK ?_ | refine zB ?_ | refine zA ?_ | refine zS ?_ | refine zU ?_ | refine zV ?_ | refine zF ?_ | with_reducible refine yab ?_ | with_reducible refine yad ?_ | refine yaa ?_ | refine yac ?_ | refine yae ?_ | refine zT ?_ | refine zE ?_ | refine zX ?_ | refine yaw (ycp rfl) rfl rfl ?_))
  refine yam rfl (fun h3 => ?_) (fun h3 => ?_)
  · have h3 : ts.length ≤ a := by simp at h3; omega
    (repeat (first | refine zI ?_ | refine zL ?_ | refine zC ?_ | refine yag ?_ | refine yaf ?_ | refine zR ?_ | refine zD ?_ | refine zK ?_ | refine zB ?_ | refine zA ?_ | refine zS ?_ | refine zU ?_ | refine zV ?_ | refine zF ?_ | with_reducible refine yab ?_ | with_reducible refine yad ?_ | refine yaa ?_ | refine yac ?_ | refine yae ?_ | refine zT ?_ | refine zE ?_ | refine zX ?_ | refine yaw (ycp rfl) rfl rfl ?_))
    refine yar ?_; refine ⟨_, rfl, ?_⟩
    rw [rfW, if_pos h2, List.drop_eq_nil_of_le h3]
    exact Frz.pure
  · have h3 : a < ts.length := by simp at h3; omega
    obtain ⟨t, ht, hd⟩ := drop_here h3
    obtain ⟨h4, h5⟩ := tok_at h ht
    (repeat (first | refine zI ?_ | refine zL ?_ | refine zC ?_ | refine yag ?_ | refine yaf ?_ | refine zR ?_ | refine zD ?_ | refine zK ?_ | refine zB ?_ | refine zA ?_ | refine zS ?_ | refine zU ?_ | refine zV ?_ | refine zF ?_ | with_reducible refine yab ?_ | with_reducible refine yad ?_ | refine yaa ?_ | refine yac ?_ | refine yae ?_ | refine zT ?_ | refine zE ?_ | refine zX ?_ | refine yaw (ycp rfl) rfl rfl ?_ | refine ybm tok rfl rfl rfl (by omega) (ycn ht) rfl rfl ?_ | refine L_sslice tok rfl rfl rfl rfl (by show (0 : Int) ≤ (t.from_ : Int); omega) (by show (t.from_ : Int) ≤ (t.to : Int); omega) (by show (t.to : Int) ≤ (s.size : Int); omega) rfl rfl ?_))
    refine yar ?_; refine ⟨_, rfl, ?_⟩
    rw [rfW, if_pos h2, hd, ← headW_of (t := t) (r := ts.drop (a + 1)) (fun x hx => h x (by rw [← hd] at hx; exact List.mem_of_mem_drop hx))]
    exact Frz.pure
theorem yfd : Con Tryz.prog 121 [.dp (rfC s names ts a err pl) 0] (i64 (rfK ts a err)) := by
  refine ybw Tryz.func121 rfl rfl Tryz.ntmps121 Tryz.results121 rfl rfl ?_
  (repeat (first | with_reducible refine yad ?_ | with_reducible refine yab ?_ | refine yac ?_ | refine yaf ?_ | refine yaa ?_))
  refine zR ?_
  (repeat (first | refine zI ?_ | refine zL ?_ | refine zC ?_ | refine zK ?_ | refine zB ?_ | refine zA ?_ | refine zS ?_ | refine zU ?_ | refine zV ?_ | refine zF ?_ | refine zX ?_ | refine yag ?_))
  (repeat (first | with_reducible refine yad ?_ | with_reducible refine yab ?_ | refine yac ?_ | refine yaf ?_ | refine yaa ?_))
  refine zD ?_
  (repeat (first | refine zI ?_ | refine zL ?_ | refine zC ?_ | refine zK ?_ | refine zB ?_ | refine zA ?_ | refine zS ?_ | refine zU ?_ | refine zV ?_ | refine zF ?_ | refine zX ?_ | refine yag ?_ | refine yaw (ycp rfl) rfl rfl ?_))
  refine ych 8 rfl (fun h2 => ?_) (fun h2 => ?_)
  · have h2 : err ≠ 0 := by simpa using h2
    (repeat (first | refine zI ?_ | refine zL ?_ | refine zC ?_ | refine yag ?_ | refine yaf ?_ | refine zR ?_ | refine zD ?_ | refine zK ?_ | refine zB ?_ | refine zA ?_ | refine zS ?_ | refine zU ?_ | refine zV ?_ | refine zF ?_ | with_reducible refine yab ?_ | with_reducible refine yad ?_ | refine yaa ?_ | refine yac ?_ | refine yae ?_ | refine zT ?_ | refine zE ?_ | refine zX ?_ | refine yaw (ycp rfl) rfl rfl ?_))
    refine yar ?_; refine ⟨_, rfl, ?_⟩
    rw [rfK, if_neg h2]
    exact Frz.pure
  have h2 : err = 0 := by simpa using h2
  (repeat (first | refine zI ?_ | refine zL ?_ | refine zC ?_ | refine yag ?_ | refine yaf ?_ | refine zR ?_ | refine zD ?_ | refine zK ?_ | refine zB ?_ | refine zA ?_ | refine zS ?_ | refine zU ?_ | refine zV ?_ | refine zF ?_ | with_reducible refine yab ?_ | with_reducible refine yad ?_ | refine yaa ?_ | refine yac ?_ | refine yae ?_ | refine zT ?_ | refine zE ?_ | refine zX ?_ | refine yaw (ycp rfl) rfl rfl ?_))
  refine yam rfl (fun h3 => ?_) (fun h3 => ?_)
  · have h3 : ts.length ≤ a := by simp at h3; omega
    (repeat (first | refine zI ?_ | refine zL ?_ | refine zC ?_ | refine yag ?_ | refine yaf ?_ | refine zR ?_ | refine zD ?_ | refine zK ?_ | refine zB ?_ | refine zA ?_ | refine zS ?_ | refine zU ?_ | refine zV ?_ | refine zF ?_ | with_reducible refine yab ?_ | with_reducible refine yad ?_ | refine yaa ?_ | refine yac ?_ | refine yae ?_ | refine zT ?_ | refine zE ?_ | refine zX ?_ | refine yaw (ycp rfl) rfl rfl ?_))
    refine yar ?_; refine ⟨_, rfl, ?_⟩
    rw [rfK, if_pos h2, List.drop_eq_nil_of_le h3]
    exact Frz.pure
  · have h3 : a < ts.length := by simp at h3; omega
    obtain ⟨t, ht, hd⟩ := drop_here h3
    (repeat (first | refine zI ?_ | refine zL ?_ | refine zC ?_ | refine yag ?_ | refine yaf ?_ | refine zR ?_ | refine zD ?_ | refine zK ?_ | refine zB ?_ | refine zA ?_ | refine zS ?_ | refine zU ?_ | refine zV ?_ | refine zF ?_ | with_reducible refine yab ?_ | with_reducible refine yad ?_ | refine yaa ?_ | refine yac ?_ | refine yae ?_ | refine zT ?_ | refine zE ?_ | refine zX ?_ | refine yaw (ycp rfl) rfl rfl ?_ | refine ybm tok rfl rfl rfl (by omega) (ycn ht) rfl rfl ?_))
    refine yar ?_; refine ⟨_, rfl, ?_⟩
    rw [rfK, if_pos h2, hd]
    exact Frz.pure
theorem fail_dead (e : Int) (h : err ≠ 0) : ConM Tryz.prog 30 [.lp 1001 0, i64 e] (yaq (rfH s names ts a err pl)) (.tup []) (yaq (rfH s names ts a err pl)) := by
  refine yaz tok Tryz.func30 rfl rfl Tryz.ntmps30 Tryz.results30 rfl (ydw rfl) ?_
  show A _ _ _ _ (S _ _)
  (repeat (first | refine zI ?_ | refine zL ?_ | refine zC ?_ | refine yag ?_ | refine yaf ?_ | refine zR ?_ | refine zD ?_ | refine zK ?_ | refine zB ?_ | refine zA ?_ | refine zS ?_ | refine zU ?_ | refine zV ?_ | refine zF ?_ | with_reducible refine yab ?_ | with_reducible refine yad ?_ | refine yaa ?_ | refine yac ?_ | refine yae ?_ | refine zT ?_ | refine zE ?_ | refine zX ?_ | refine yao rfl rfl rfl rfl ?_))
  refine yam rfl (fun h2 => ?_) (fun h2 => ?_)
  · refine yar ?_
    exact ⟨_, rfl, yav _, yap (yai rfl yan)⟩
  · simp at h2
    exact absurd h2 h
theorem fail_rf (e : Int) (h : a ≤ ts.length) : ConM Tryz.prog 30 [.lp 1001 0, i64 e] (yaq (rfH s names ts a 0 pl)) (.tup []) (yaq (rfH s names ts a e (yez s (ts.drop a)))) := by
  refine yaz tok Tryz.func30 rfl rfl Tryz.ntmps30 Tryz.results30 rfl (ydw rfl) ?_
  show A _ _ _ _ (S _ _)
  (repeat (first | refine zI ?_ | refine zL ?_ | refine zC ?_ | refine yag ?_ | refine yaf ?_ | refine zR ?_ | refine zD ?_ | refine zK ?_ | refine zB ?_ | refine zA ?_ | refine zS ?_ | refine zU ?_ | refine zV ?_ | refine zF ?_ | with_reducible refine yab ?_ | with_reducible refine yad ?_ | refine yaa ?_ | refine yac ?_ | refine yae ?_ | refine zT ?_ | refine zE ?_ | refine zX ?_ | refine yao rfl rfl rfl rfl ?_))
  refine yam rfl (fun h3 => ?_) (fun h3 => ?_)
  · have h3 : a < ts.length := by simp at h3; omega
    obtain ⟨t, ht, hd⟩ := drop_here h3
    (repeat (first | refine zI ?_ | refine zL ?_ | refine zC ?_ | refine yag ?_ | refine yaf ?_ | refine zR ?_ | refine zD ?_ | refine zK ?_ | refine zB ?_ | refine zA ?_ | refine zS ?_ | refine zU ?_ | refine zV ?_ | refine zF ?_ | with_reducible refine yab ?_ | with_reducible refine yad ?_ | refine yaa ?_ | refine yac ?_ | refine yae ?_ | refine zT ?_ | refine zE ?_ | refine zX ?_ | refine yao rfl rfl rfl rfl ?_ | refine ybm tok rfl rfl rfl (by omega) (ycn ht) rfl rfl ?_))
    rw [hd]
    exact ⟨_, rfl, yav _, yap (yai rfl yan)⟩
  · have h3 : ts.length ≤ a := by simp at h3; omega
    (repeat (first | refine zI ?_ | refine zL ?_ | refine zC ?_ | refine yag ?_ | refine yaf ?_ | refine zR ?_ | refine zD ?_ | refine zK ?_ | refine zB ?_ | refine zA ?_ | refine zS ?_ | refine zU ?_ | refine zV ?_ | refine zF ?_ | with_reducible refine yab ?_ | with_reducible refine yad ?_ | refine yaa ?_ | refine yac ?_ | refine yae ?_ | refine zT ?_ | refine zE ?_ | refine zX ?_))
    rw [List.drop_eq_nil_of_le h3]
    exact ⟨_, rfl, yav _, yap (yai rfl yan)⟩
theorem ydd {w x : Bs} (h : ((ba w).toList == (ba x).toList) = true) : w = x := by simpa [yem] using h
theorem yde {w x : Bs} (h : ((ba w).toList == (ba x).toList) = false) : w ≠ x := by simpa [yem] using h
theorem yce (h : ydl s ts) (ha : a ≤ ts.length) {w : Bs} (hw : rfW s ts a err = w) (h0 : w ≠ []) (hb : ts.length ≤ 100000) : ConM Tryz.prog 58 [.lp 1001 0, yey (ba w)] (yaq (rfH s names ts a err pl)) (boolA true) (yaq (rfH s names ts (a + 1) err pl)) := by
  refine yaz tok Tryz.func58 rfl rfl Tryz.ntmps58 Tryz.results58 rfl (ydw rfl) ?_
  show A _ _ _ _ (S _ _)
  (repeat (first | refine zI ?_ | refine zL ?_ | refine zC ?_ | refine yag ?_ | refine yaf ?_ | refine zR ?_ | refine zD ?_ | refine zK ?_ | refine zB ?_ | refine zA ?_ | refine zS ?_ | refine zU ?_ | refine zV ?_ | refine zF ?_ | with_reducible refine yab ?_ | with_reducible refine yad ?_ | refine yaa ?_ | refine yac ?_ | refine yae ?_ | refine zT ?_ | refine zE ?_ | refine zX ?_ | refine yaw (yau (args := []) rfl rfl rfl rfl rfl (ycl h)) rfl rfl ?_))
  refine yam rfl (fun h2 => ?_) (fun h2 => ?_)
  · rw [hw] at h2
    simp at h2
  (repeat (first | refine zI ?_ | refine zL ?_ | refine zC ?_ | refine yag ?_ | refine yaf ?_ | refine zR ?_ | refine zD ?_ | refine zK ?_ | refine zB ?_ | refine zA ?_ | refine zS ?_ | refine zU ?_ | refine zV ?_ | refine zF ?_ | with_reducible refine yab ?_ | with_reducible refine yad ?_ | refine yaa ?_ | refine yac ?_ | refine yae ?_ | refine zT ?_ | refine zE ?_ | refine zX ?_ | refine yao rfl rfl rfl rfl ?_))
  refine yar ?_
  exact ⟨_, rfl, yav _, yap (yai rfl yan)⟩
theorem ybs (h : ydl s ts) {w : Bs} (hw : rfW s ts a err ≠ w) : ConM Tryz.prog 58 [.lp 1001 0, yey (ba w)] (yaq (rfH s names ts a err pl)) (boolA false) (yaq (rfH s names ts a err pl)) := by
  refine yaz tok Tryz.func58 rfl rfl Tryz.ntmps58 Tryz.results58 rfl (ydw rfl) ?_
  show A _ _ _ _ (S _ _)
  (repeat (first | refine zI ?_ | refine zL ?_ | refine zC ?_ | refine yag ?_ | refine yaf ?_ | refine zR ?_ | refine zD ?_ | refine zK ?_ | refine zB ?_ | refine zA ?_ | refine zS ?_ | refine zU ?_ | refine zV ?_ | refine zF ?_ | with_reducible refine yab ?_ | with_reducible refine yad ?_ | refine yaa ?_ | refine yac ?_ | refine yae ?_ | refine zT ?_ | refine zE ?_ | refine zX ?_ | refine yaw (yau (args := []) rfl rfl rfl rfl rfl (ycl h)) rfl rfl ?_))
  refine yam rfl (fun h2 => ?_) (fun h2 => ?_)
  · (repeat (first | refine zI ?_ | refine zL ?_ | refine zC ?_ | refine yag ?_ | refine yaf ?_ | refine zR ?_ | refine zD ?_ | refine zK ?_ | refine zB ?_ | refine zA ?_ | refine zS ?_ | refine zU ?_ | refine zV ?_ | refine zF ?_ | with_reducible refine yab ?_ | with_reducible refine yad ?_ | refine yaa ?_ | refine yac ?_ | refine yae ?_ | refine zT ?_ | refine zE ?_ | refine zX ?_))
    refine yar ?_
    exact ⟨_, rfl, yav _, yap (yai rfl yan)⟩
  · simp [yem] at h2
    exact absurd h2 hw
theorem want_rf_yes (h : ydl s ts) (ha : a ≤ ts.length) {w : Bs} (hw : rfW s ts a err = w) (h0 : w ≠ []) (hb : ts.length ≤ 100000) : ConM Tryz.prog 59 [.lp 1001 0, yey (ba w)] (yaq (rfH s names ts a err pl)) (.tup []) (yaq (rfH s names ts (a + 1) err pl)) := by
  refine yaz tok Tryz.func59 rfl rfl Tryz.ntmps59 Tryz.results59 rfl (ydw rfl) ?_
  show A _ _ _ _ (S _ _)
  (repeat (first | refine zI ?_ | refine zL ?_ | refine zC ?_ | refine yag ?_ | refine yaf ?_ | refine zR ?_ | refine zD ?_ | refine zK ?_ | refine zB ?_ | refine zA ?_ | refine zS ?_ | refine zU ?_ | refine zV ?_ | refine zF ?_ | with_reducible refine yab ?_ | with_reducible refine yad ?_ | refine yaa ?_ | refine yac ?_ | refine yae ?_ | refine zT ?_ | refine zE ?_ | refine zX ?_ | refine ybl 1001 (yce h ha hw h0 hb) rfl rfl rfl rfl rfl rfl rfl rfl rfl rfl rfl rfl ?_))
  exact ⟨_, rfl, yav _, yap (yai rfl yan)⟩
theorem want_rf_no (h : ydl s ts) (ha : a ≤ ts.length) {w : Bs} (hw : rfW s ts a 0 ≠ w) : ConM Tryz.prog 59 [.lp 1001 0, yey (ba w)] (yaq (rfH s names ts a 0 pl)) (.tup []) (yaq (rfH s names ts a 4 (yez s (ts.drop a)))) := by
  refine yaz tok Tryz.func59 rfl rfl Tryz.ntmps59 Tryz.results59 rfl (ydw rfl) ?_
  show A _ _ _ _ (S _ _)
  (repeat (first | refine zI ?_ | refine zL ?_ | refine zC ?_ | refine yag ?_ | refine yaf ?_ | refine zR ?_ | refine zD ?_ | refine zK ?_ | refine zB ?_ | refine zA ?_ | refine zS ?_ | refine zU ?_ | refine zV ?_ | refine zF ?_ | with_reducible refine yab ?_ | with_reducible refine yad ?_ | refine yaa ?_ | refine yac ?_ | refine yae ?_ | refine zT ?_ | refine zE ?_ | refine zX ?_ | refine ybl 1001 (ybs h hw) rfl rfl rfl rfl rfl rfl rfl rfl rfl rfl rfl rfl ?_ | refine ybl 1001 (fail_rf 4 ha) rfl rfl rfl rfl rfl rfl rfl rfl rfl rfl rfl rfl ?_))
  exact ⟨_, rfl, yav _, yap (yai rfl yan)⟩
theorem want_rf_dead (h : ydl s ts) {w : Bs} (h0 : w ≠ []) (he : err ≠ 0) : ConM Tryz.prog 59 [.lp 1001 0, yey (ba w)] (yaq (rfH s names ts a err pl)) (.tup []) (yaq (rfH s names ts a err pl)) := by
  have hw : rfW s ts a err ≠ w := by rw [rfW, if_neg he]; exact fun e => h0 e.symm
  refine yaz tok Tryz.func59 rfl rfl Tryz.ntmps59 Tryz.results59 rfl (ydw rfl) ?_
  show A _ _ _ _ (S _ _)
  (repeat (first | refine zI ?_ | refine zL ?_ | refine zC ?_ | refine yag ?_ | refine yaf ?_ | refine zR ?_ | refine zD ?_ | refine zK ?_ | refine zB ?_ | refine zA ?_ | refine zS ?_ | refine zU ?_ | refine zV ?_ | refine zF ?_ | with_reducible refine yab ?_ | with_reducible refine yad ?_ | refine yaa ?_ | refine yac ?_ | refine yae ?_ | refine zT ?_ | refine zE ?_ | refine zX ?_ | refine ybl 1001 (ybs h hw) rfl rfl rfl rfl rfl rfl rfl rfl rfl rfl rfl rfl ?_ | refine ybl 1001 (fail_dead 4 he) rfl rfl rfl rfl rfl rfl rfl rfl rfl rfl rfl rfl ?_))
  exact ⟨_, rfl, yav _, yap (yai rfl yan)⟩
theorem findL_none {first : Int} {l : List Bs} {w : Bs} (h : ∀ x ∈ l, x ≠ [] → w ≠ x) : findL first l w = 0 := by
  unfold findL
  split
  · rfl
  · rename_i hw
    cases hi : idxW l w with
    | none => rfl
    | some i => exact absurd rfl (h w (idxW_mem hi) hw)
theorem yfp (w : Bs) : Con Tryz.prog 122 [yey (ba w)] (i64 (yeu w)) := by
  refine ybw Tryz.func122 rfl rfl Tryz.ntmps122 Tryz.results122 rfl rfl ?_
  (repeat (first | refine zI ?_ | refine zL ?_ | refine zC ?_ | refine yag ?_ | refine yaf ?_ | refine zR ?_ | refine zD ?_ | refine zK ?_ | refine zB ?_ | refine zA ?_ | refine zS ?_ | refine zU ?_ | refine zV ?_ | refine zF ?_ | with_reducible refine yab ?_ | with_reducible refine yad ?_ | refine yaa ?_ | refine yac ?_ | refine yae ?_ | refine zT ?_ | refine zE ?_ | refine zX ?_))
  refine yam rfl (fun h => ?_) (fun h => ?_)
  · obtain rfl := ydd (x := [116, 114, 117, 101]) h
    (repeat (first | refine zI ?_ | refine zL ?_ | refine zC ?_ | refine yag ?_ | refine yaf ?_ | refine zR ?_ | refine zD ?_ | refine zK ?_ | refine zB ?_ | refine zA ?_ | refine zS ?_ | refine zU ?_ | refine zV ?_ | refine zF ?_ | with_reducible refine yab ?_ | with_reducible refine yad ?_ | refine yaa ?_ | refine yac ?_ | refine yae ?_ | refine zT ?_ | refine zE ?_ | refine zX ?_))
    refine yar ?_; refine ⟨_, rfl, ?_⟩
    exact Frz.pure
  have n0 := yde (x := [116, 114, 117, 101]) h
  clear h
  (repeat (first | refine zI ?_ | refine zL ?_ | refine zC ?_ | refine yag ?_ | refine yaf ?_ | refine zR ?_ | refine zD ?_ | refine zK ?_ | refine zB ?_ | refine zA ?_ | refine zS ?_ | refine zU ?_ | refine zV ?_ | refine zF ?_ | with_reducible refine yab ?_ | with_reducible refine yad ?_ | refine yaa ?_ | refine yac ?_ | refine yae ?_ | refine zT ?_ | refine zE ?_ | refine zX ?_))
  refine yam rfl (fun h => ?_) (fun h => ?_)
  · obtain rfl := ydd (x := [102, 97, 108, 115, 101]) h
    (repeat (first | refine zI ?_ | refine zL ?_ | refine zC ?_ | refine yag ?_ | refine yaf ?_ | refine zR ?_ | refine zD ?_ | refine zK ?_ | refine zB ?_ | refine zA ?_ | refine zS ?_ | refine zU ?_ | refine zV ?_ | refine zF ?_ | with_reducible refine yab ?_ | with_reducible refine yad ?_ | refine yaa ?_ | refine yac ?_ | refine yae ?_ | refine zT ?_ | refine zE ?_ | refine zX ?_))
    refine yar ?_; refine ⟨_, rfl, ?_⟩
    exact Frz.pure
  have n1 := yde (x := [102, 97, 108, 115, 101]) h
  clear h
  (repeat (first | refine zI ?_ | refine zL ?_ | refine zC ?_ | refine yag ?_ | refine yaf ?_ | refine zR ?_ | refine zD ?_ | refine zK ?_ | refine zB ?_ | refine zA ?_ | refine zS ?_ | refine zU ?_ | refine zV ?_ | refine zF ?_ | with_reducible refine yab ?_ | with_reducible refine yad ?_ | refine yaa ?_ | refine yac ?_ | refine yae ?_ | refine zT ?_ | refine zE ?_ | refine zX ?_))
  refine yam rfl (fun h => ?_) (fun h => ?_)
  · obtain rfl := ydd (x := [110, 111, 110, 101]) h
    (repeat (first | refine zI ?_ | refine zL ?_ | refine zC ?_ | refine yag ?_ | refine yaf ?_ | refine zR ?_ | refine zD ?_ | refine zK ?_ | refine zB ?_ | refine zA ?_ | refine zS ?_ | refine zU ?_ | refine zV ?_ | refine zF ?_ | with_reducible refine yab ?_ | with_reducible refine yad ?_ | refine yaa ?_ | refine yac ?_ | refine yae ?_ | refine zT ?_ | refine zE ?_ | refine zX ?_))
    refine yar ?_; refine ⟨_, rfl, ?_⟩
    exact Frz.pure
  have n2 := yde (x := [110, 111, 110, 101]) h
  clear h
  (repeat (first | refine zI ?_ | refine zL ?_ | refine zC ?_ | refine yag ?_ | refine yaf ?_ | refine zR ?_ | refine zD ?_ | refine zK ?_ | refine zB ?_ | refine zA ?_ | refine zS ?_ | refine zU ?_ | refine zV ?_ | refine zF ?_ | with_reducible refine yab ?_ | with_reducible refine yad ?_ | refine yaa ?_ | refine yac ?_ | refine yae ?_ | refine zT ?_ | refine zE ?_ | refine zX ?_))
  refine yam rfl (fun h => ?_) (fun h => ?_)
  · obtain rfl := ydd (x := [110]) h
    (repeat (first | refine zI ?_ | refine zL ?_ | refine zC ?_ | refine yag ?_ | refine yaf ?_ | refine zR ?_ | refine zD ?_ | refine zK ?_ | refine zB ?_ | refine zA ?_ | refine zS ?_ | refine zU ?_ | refine zV ?_ | refine zF ?_ | with_reducible refine yab ?_ | with_reducible refine yad ?_ | refine yaa ?_ | refine yac ?_ | refine yae ?_ | refine zT ?_ | refine zE ?_ | refine zX ?_))
    refine yar ?_; refine ⟨_, rfl, ?_⟩
    exact Frz.pure
  have n3 := yde (x := [110]) h
  clear h
  (repeat (first | refine zI ?_ | refine zL ?_ | refine zC ?_ | refine yag ?_ | refine yaf ?_ | refine zR ?_ | refine zD ?_ | refine zK ?_ | refine zB ?_ | refine zA ?_ | refine zS ?_ | refine zU ?_ | refine zV ?_ | refine zF ?_ | with_reducible refine yab ?_ | with_reducible refine yad ?_ | refine yaa ?_ | refine yac ?_ | refine yae ?_ | refine zT ?_ | refine zE ?_ | refine zX ?_))
  refine yam rfl (fun h => ?_) (fun h => ?_)
  · obtain rfl := ydd (x := [105, 100, 115]) h
    (repeat (first | refine zI ?_ | refine zL ?_ | refine zC ?_ | refine yag ?_ | refine yaf ?_ | refine zR ?_ | refine zD ?_ | refine zK ?_ | refine zB ?_ | refine zA ?_ | refine zS ?_ | refine zU ?_ | refine zV ?_ | refine zF ?_ | with_reducible refine yab ?_ | with_reducible refine yad ?_ | refine yaa ?_ | refine yac ?_ | refine yae ?_ | refine zT ?_ | refine zE ?_ | refine zX ?_))
    refine yar ?_; refine ⟨_, rfl, ?_⟩
    exact Frz.pure
  have n4 := yde (x := [105, 100, 115]) h
  clear h
  (repeat (first | refine zI ?_ | refine zL ?_ | refine zC ?_ | refine yag ?_ | refine yaf ?_ | refine zR ?_ | refine zD ?_ | refine zK ?_ | refine zB ?_ | refine zA ?_ | refine zS ?_ | refine zU ?_ | refine zV ?_ | refine zF ?_ | with_reducible refine yab ?_ | with_reducible refine yad ?_ | refine yaa ?_ | refine yac ?_ | refine yae ?_ | refine zT ?_ | refine zE ?_ | refine zX ?_))
  refine yam rfl (fun h => ?_) (fun h => ?_)
  · obtain rfl := ydd (x := [105, 100]) h
    (repeat (first | refine zI ?_ | refine zL ?_ | refine zC ?_ | refine yag ?_ | refine yaf ?_ | refine zR ?_ | refine zD ?_ | refine zK ?_ | refine zB ?_ | refine zA ?_ | refine zS ?_ | refine zU ?_ | refine zV ?_ | refine zF ?_ | with_reducible refine yab ?_ | with_reducible refine yad ?_ | refine yaa ?_ | refine yac ?_ | refine yae ?_ | refine zT ?_ | refine zE ?_ | refine zX ?_))
    refine yar ?_; refine ⟨_, rfl, ?_⟩
    exact Frz.pure
  have n5 := yde (x := [105, 100]) h
  clear h
  (repeat (first | refine zI ?_ | refine zL ?_ | refine zC ?_ | refine yag ?_ | refine yaf ?_ | refine zR ?_ | refine zD ?_ | refine zK ?_ | refine zB ?_ | refine zA ?_ | refine zS ?_ | refine zU ?_ | refine zV ?_ | refine zF ?_ | with_reducible refine yab ?_ | with_reducible refine yad ?_ | refine yaa ?_ | refine yac ?_ | refine yae ?_ | refine zT ?_ | refine zE ?_ | refine zX ?_))
  refine yam rfl (fun h => ?_) (fun h => ?_)
  · obtain rfl := ydd (x := [100, 101, 103]) h
    (repeat (first | refine zI ?_ | refine zL ?_ | refine zC ?_ | refine yag ?_ | refine yaf ?_ | refine zR ?_ | refine zD ?_ | refine zK ?_ | refine zB ?_ | refine zA ?_ | refine zS ?_ | refine zU ?_ | refine zV ?_ | refine zF ?_ | with_reducible refine yab ?_ | with_reducible refine yad ?_ | refine yaa ?_ | refine yac ?_ | refine yae ?_ | refine zT ?_ | refine zE ?_ | refine zX ?_))
    refine yar ?_; refine ⟨_, rfl, ?_⟩
    exact Frz.pure
  have n6 := yde (x := [100, 101, 103]) h
  clear h
  (repeat (first | refine zI ?_ | refine zL ?_ | refine zC ?_ | refine yag ?_ | refine yaf ?_ | refine zR ?_ | refine zD ?_ | refine zK ?_ | refine zB ?_ | refine zA ?_ | refine zS ?_ | refine zU ?_ | refine zV ?_ | refine zF ?_ | with_reducible refine yab ?_ | with_reducible refine yad ?_ | refine yaa ?_ | refine yac ?_ | refine yae ?_ | refine zT ?_ | refine zE ?_ | refine zX ?_))
  refine yam rfl (fun h => ?_) (fun h => ?_)
  · obtain rfl := ydd (x := [114, 111, 111, 116]) h
    (repeat (first | refine zI ?_ | refine zL ?_ | refine zC ?_ | refine yag ?_ | refine yaf ?_ | refine zR ?_ | refine zD ?_ | refine zK ?_ | refine zB ?_ | refine zA ?_ | refine zS ?_ | refine zU ?_ | refine zV ?_ | refine zF ?_ | with_reducible refine yab ?_ | with_reducible refine yad ?_ | refine yaa ?_ | refine yac ?_ | refine yae ?_ | refine zT ?_ | refine zE ?_ | refine zX ?_))
    refine yar ?_; refine ⟨_, rfl, ?_⟩
    exact Frz.pure
  have n7 := yde (x := [114, 111, 111, 116]) h
  clear h
  (repeat (first | refine zI ?_ | refine zL ?_ | refine zC ?_ | refine yag ?_ | refine yaf ?_ | refine zR ?_ | refine zD ?_ | refine zK ?_ | refine zB ?_ | refine zA ?_ | refine zS ?_ | refine zU ?_ | refine zV ?_ | refine zF ?_ | with_reducible refine yab ?_ | with_reducible refine yad ?_ | refine yaa ?_ | refine yac ?_ | refine yae ?_ | refine zT ?_ | refine zE ?_ | refine zX ?_))
  refine yar ?_; refine ⟨_, rfl, ?_⟩
  have h0 : yeu w = 0 := findL_none (by simp [constL]; exact ⟨n0, n1, n2, n3, n4, n5, n6, n7⟩)
  rw [h0]
  exact Frz.pure
theorem field_rf (w : Bs) : Con Tryz.prog 125 [yey (ba w)] (i64 (fieldO w)) := by
  refine ybw Tryz.func125 rfl rfl Tryz.ntmps125 Tryz.results125 rfl rfl ?_
  (repeat (first | refine zI ?_ | refine zL ?_ | refine zC ?_ | refine yag ?_ | refine yaf ?_ | refine zR ?_ | refine zD ?_ | refine zK ?_ | refine zB ?_ | refine zA ?_ | refine zS ?_ | refine zU ?_ | refine zV ?_ | refine zF ?_ | with_reducible refine yab ?_ | with_reducible refine yad ?_ | refine yaa ?_ | refine yac ?_ | refine yae ?_ | refine zT ?_ | refine zE ?_ | refine zX ?_))
  refine yam rfl (fun h => ?_) (fun h => ?_)
  · obtain rfl := ydd (x := [105, 100]) h
    (repeat (first | refine zI ?_ | refine zL ?_ | refine zC ?_ | refine yag ?_ | refine yaf ?_ | refine zR ?_ | refine zD ?_ | refine zK ?_ | refine zB ?_ | refine zA ?_ | refine zS ?_ | refine zU ?_ | refine zV ?_ | refine zF ?_ | with_reducible refine yab ?_ | with_reducible refine yad ?_ | refine yaa ?_ | refine yac ?_ | refine yae ?_ | refine zT ?_ | refine zE ?_ | refine zX ?_))
    refine yar ?_; refine ⟨_, rfl, ?_⟩
    exact Frz.pure
  have n0 := yde (x := [105, 100]) h
  clear h
  (repeat (first | refine zI ?_ | refine zL ?_ | refine zC ?_ | refine yag ?_ | refine yaf ?_ | refine zR ?_ | refine zD ?_ | refine zK ?_ | refine zB ?_ | refine zA ?_ | refine zS ?_ | refine zU ?_ | refine zV ?_ | refine zF ?_ | with_reducible refine yab ?_ | with_reducible refine yad ?_ | refine yaa ?_ | refine yac ?_ | refine yae ?_ | refine zT ?_ | refine zE ?_ | refine zX ?_))
  refine yam rfl (fun h => ?_) (fun h => ?_)
  · obtain rfl := ydd (x := [100, 101, 103]) h
    (repeat (first | refine zI ?_ | refine zL ?_ | refine zC ?_ | refine yag ?_ | refine yaf ?_ | refine zR ?_ | refine zD ?_ | refine zK ?_ | refine zB ?_ | refine zA ?_ | refine zS ?_ | refine zU ?_ | refine zV ?_ | refine zF ?_ | with_reducible refine yab ?_ | with_reducible refine yad ?_ | refine yaa ?_ | refine yac ?_ | refine yae ?_ | refine zT ?_ | refine zE ?_ | refine zX ?_))
    refine yar ?_; refine ⟨_, rfl, ?_⟩
    exact Frz.pure
  have n1 := yde (x := [100, 101, 103]) h
  clear h
  (repeat (first | refine zI ?_ | refine zL ?_ | refine zC ?_ | refine yag ?_ | refine yaf ?_ | refine zR ?_ | refine zD ?_ | refine zK ?_ | refine zB ?_ | refine zA ?_ | refine zS ?_ | refine zU ?_ | refine zV ?_ | refine zF ?_ | with_reducible refine yab ?_ | with_reducible refine yad ?_ | refine yaa ?_ | refine yac ?_ | refine yae ?_ | refine zT ?_ | refine zE ?_ | refine zX ?_))
  refine yam rfl (fun h => ?_) (fun h => ?_)
  · obtain rfl := ydd (x := [114, 111, 111, 116]) h
    (repeat (first | refine zI ?_ | refine zL ?_ | refine zC ?_ | refine yag ?_ | refine yaf ?_ | refine zR ?_ | refine zD ?_ | refine zK ?_ | refine zB ?_ | refine zA ?_ | refine zS ?_ | refine zU ?_ | refine zV ?_ | refine zF ?_ | with_reducible refine yab ?_ | with_reducible refine yad ?_ | refine yaa ?_ | refine yac ?_ | refine yae ?_ | refine zT ?_ | refine zE ?_ | refine zX ?_))
    refine yar ?_; refine ⟨_, rfl, ?_⟩
    exact Frz.pure
  have n2 := yde (x := [114, 111, 111, 116]) h
  clear h
  (repeat (first | refine zI ?_ | refine zL ?_ | refine zC ?_ | refine yag ?_ | refine yaf ?_ | refine zR ?_ | refine zD ?_ | refine zK ?_ | refine zB ?_ | refine zA ?_ | refine zS ?_ | refine zU ?_ | refine zV ?_ | refine zF ?_ | with_reducible refine yab ?_ | with_reducible refine yad ?_ | refine yaa ?_ | refine yac ?_ | refine yae ?_ | refine zT ?_ | refine zE ?_ | refine zX ?_))
  refine yam rfl (fun h => ?_) (fun h => ?_)
  · obtain rfl := ydd (x := [119, 101, 105, 103, 104, 116]) h
    (repeat (first | refine zI ?_ | refine zL ?_ | refine zC ?_ | refine yag ?_ | refine yaf ?_ | refine zR ?_ | refine zD ?_ | refine zK ?_ | refine zB ?_ | refine zA ?_ | refine zS ?_ | refine zU ?_ | refine zV ?_ | refine zF ?_ | with_reducible refine yab ?_ | with_reducible refine yad ?_ | refine yaa ?_ | refine yac ?_ | refine yae ?_ | refine zT ?_ | refine zE ?_ | refine zX ?_))
    refine yar ?_; refine ⟨_, rfl, ?_⟩
    exact Frz.pure
  have n3 := yde (x := [119, 101, 105, 103, 104, 116]) h
  clear h
  (repeat (first | refine zI ?_ | refine zL ?_ | refine zC ?_ | refine yag ?_ | refine yaf ?_ | refine zR ?_ | refine zD ?_ | refine zK ?_ | refine zB ?_ | refine zA ?_ | refine zS ?_ | refine zU ?_ | refine zV ?_ | refine zF ?_ | with_reducible refine yab ?_ | with_reducible refine yad ?_ | refine yaa ?_ | refine yac ?_ | refine yae ?_ | refine zT ?_ | refine zE ?_ | refine zX ?_))
  refine yam rfl (fun h => ?_) (fun h => ?_)
  · obtain rfl := ydd (x := [98, 97, 99, 107]) h
    (repeat (first | refine zI ?_ | refine zL ?_ | refine zC ?_ | refine yag ?_ | refine yaf ?_ | refine zR ?_ | refine zD ?_ | refine zK ?_ | refine zB ?_ | refine zA ?_ | refine zS ?_ | refine zU ?_ | refine zV ?_ | refine zF ?_ | with_reducible refine yab ?_ | with_reducible refine yad ?_ | refine yaa ?_ | refine yac ?_ | refine yae ?_ | refine zT ?_ | refine zE ?_ | refine zX ?_))
    refine yar ?_; refine ⟨_, rfl, ?_⟩
    exact Frz.pure
  have n4 := yde (x := [98, 97, 99, 107]) h
  clear h
  (repeat (first | refine zI ?_ | refine zL ?_ | refine zC ?_ | refine yag ?_ | refine yaf ?_ | refine zR ?_ | refine zD ?_ | refine zK ?_ | refine zB ?_ | refine zA ?_ | refine zS ?_ | refine zU ?_ | refine zV ?_ | refine zF ?_ | with_reducible refine yab ?_ | with_reducible refine yad ?_ | refine yaa ?_ | refine yac ?_ | refine yae ?_ | refine zT ?_ | refine zE ?_ | refine zX ?_))
  refine yar ?_; refine ⟨_, rfl, ?_⟩
  have h0 : fieldO w = 0 := findL_none (by simp [fieldL]; exact ⟨n0, n1, n2, n3, n4⟩)
  rw [h0]
  exact Frz.pure
theorem yci (w : Bs) : Con Tryz.prog 123 [yey (ba w)] (i64 (aggO w)) := by
  refine ybw Tryz.func123 rfl rfl Tryz.ntmps123 Tryz.results123 rfl rfl ?_
  (repeat (first | refine zI ?_ | refine zL ?_ | refine zC ?_ | refine yag ?_ | refine yaf ?_ | refine zR ?_ | refine zD ?_ | refine zK ?_ | refine zB ?_ | refine zA ?_ | refine zS ?_ | refine zU ?_ | refine zV ?_ | refine zF ?_ | with_reducible refine yab ?_ | with_reducible refine yad ?_ | refine yaa ?_ | refine yac ?_ | refine yae ?_ | refine zT ?_ | refine zE ?_ | refine zX ?_))
  refine yam rfl (fun h => ?_) (fun h => ?_)
  · obtain rfl := ydd (x := [97, 108, 108]) h
    (repeat (first | refine zI ?_ | refine zL ?_ | refine zC ?_ | refine yag ?_ | refine yaf ?_ | refine zR ?_ | refine zD ?_ | refine zK ?_ | refine zB ?_ | refine zA ?_ | refine zS ?_ | refine zU ?_ | refine zV ?_ | refine zF ?_ | with_reducible refine yab ?_ | with_reducible refine yad ?_ | refine yaa ?_ | refine yac ?_ | refine yae ?_ | refine zT ?_ | refine zE ?_ | refine zX ?_))
    refine yar ?_; refine ⟨_, rfl, ?_⟩
    exact Frz.pure
  have n0 := yde (x := [97, 108, 108]) h
  clear h
  (repeat (first | refine zI ?_ | refine zL ?_ | refine zC ?_ | refine yag ?_ | refine yaf ?_ | refine zR ?_ | refine zD ?_ | refine zK ?_ | refine zB ?_ | refine zA ?_ | refine zS ?_ | refine zU ?_ | refine zV ?_ | refine zF ?_ | with_reducible refine yab ?_ | with_reducible refine yad ?_ | refine yaa ?_ | refine yac ?_ | refine yae ?_ | refine zT ?_ | refine zE ?_ | refine zX ?_))
  refine yam rfl (fun h => ?_) (fun h => ?_)
  · obtain rfl := ydd (x := [115, 111, 109, 101]) h
    (repeat (first | refine zI ?_ | refine zL ?_ | refine zC ?_ | refine yag ?_ | refine yaf ?_ | refine zR ?_ | refine zD ?_ | refine zK ?_ | refine zB ?_ | refine zA ?_ | refine zS ?_ | refine zU ?_ | refine zV ?_ | refine zF ?_ | with_reducible refine yab ?_ | with_reducible refine yad ?_ | refine yaa ?_ | refine yac ?_ | refine yae ?_ | refine zT ?_ | refine zE ?_ | refine zX ?_))
    refine yar ?_; refine ⟨_, rfl, ?_⟩
    exact Frz.pure
  have n1 := yde (x := [115, 111, 109, 101]) h
  clear h
  (repeat (first | refine zI ?_ | refine zL ?_ | refine zC ?_ | refine yag ?_ | refine yaf ?_ | refine zR ?_ | refine zD ?_ | refine zK ?_ | refine zB ?_ | refine zA ?_ | refine zS ?_ | refine zU ?_ | refine zV ?_ | refine zF ?_ | with_reducible refine yab ?_ | with_reducible refine yad ?_ | refine yaa ?_ | refine yac ?_ | refine yae ?_ | refine zT ?_ | refine zE ?_ | refine zX ?_))
  refine yam rfl (fun h => ?_) (fun h => ?_)
  · obtain rfl := ydd (x := [99, 111, 117, 110, 116]) h
    (repeat (first | refine zI ?_ | refine zL ?_ | refine zC ?_ | refine yag ?_ | refine yaf ?_ | refine zR ?_ | refine zD ?_ | refine zK ?_ | refine zB ?_ | refine zA ?_ | refine zS ?_ | refine zU ?_ | refine zV ?_ | refine zF ?_ | with_reducible refine yab ?_ | with_reducible refine yad ?_ | refine yaa ?_ | refine yac ?_ | refine yae ?_ | refine zT ?_ | refine zE ?_ | refine zX ?_))
    refine yar ?_; refine ⟨_, rfl, ?_⟩
    exact Frz.pure
  have n2 := yde (x := [99, 111, 117, 110, 116]) h
  clear h
  (repeat (first | refine zI ?_ | refine zL ?_ | refine zC ?_ | refine yag ?_ | refine yaf ?_ | refine zR ?_ | refine zD ?_ | refine zK ?_ | refine zB ?_ | refine zA ?_ | refine zS ?_ | refine zU ?_ | refine zV ?_ | refine zF ?_ | with_reducible refine yab ?_ | with_reducible refine yad ?_ | refine yaa ?_ | refine yac ?_ | refine yae ?_ | refine zT ?_ | refine zE ?_ | refine zX ?_))
  refine yam rfl (fun h => ?_) (fun h => ?_)
  · obtain rfl := ydd (x := [102, 105, 114, 115, 116]) h
    (repeat (first | refine zI ?_ | refine zL ?_ | refine zC ?_ | refine yag ?_ | refine yaf ?_ | refine zR ?_ | refine zD ?_ | refine zK ?_ | refine zB ?_ | refine zA ?_ | refine zS ?_ | refine zU ?_ | refine zV ?_ | refine zF ?_ | with_reducible refine yab ?_ | with_reducible refine yad ?_ | refine yaa ?_ | refine yac ?_ | refine yae ?_ | refine zT ?_ | refine zE ?_ | refine zX ?_))
    refine yar ?_; refine ⟨_, rfl, ?_⟩
    exact Frz.pure
  have n3 := yde (x := [102, 105, 114, 115, 116]) h
  clear h
  (repeat (first | refine zI ?_ | refine zL ?_ | refine zC ?_ | refine yag ?_ | refine yaf ?_ | refine zR ?_ | refine zD ?_ | refine zK ?_ | refine zB ?_ | refine zA ?_ | refine zS ?_ | refine zU ?_ | refine zV ?_ | refine zF ?_ | with_reducible refine yab ?_ | with_reducible refine yad ?_ | refine yaa ?_ | refine yac ?_ | refine yae ?_ | refine zT ?_ | refine zE ?_ | refine zX ?_))
  refine yam rfl (fun h => ?_) (fun h => ?_)
  · obtain rfl := ydd (x := [109, 105, 110]) h
    (repeat (first | refine zI ?_ | refine zL ?_ | refine zC ?_ | refine yag ?_ | refine yaf ?_ | refine zR ?_ | refine zD ?_ | refine zK ?_ | refine zB ?_ | refine zA ?_ | refine zS ?_ | refine zU ?_ | refine zV ?_ | refine zF ?_ | with_reducible refine yab ?_ | with_reducible refine yad ?_ | refine yaa ?_ | refine yac ?_ | refine yae ?_ | refine zT ?_ | refine zE ?_ | refine zX ?_))
    refine yar ?_; refine ⟨_, rfl, ?_⟩
    exact Frz.pure
  have n4 := yde (x := [109, 105, 110]) h
  clear h
  (repeat (first | refine zI ?_ | refine zL ?_ | refine zC ?_ | refine yag ?_ | refine yaf ?_ | refine zR ?_ | refine zD ?_ | refine zK ?_ | refine zB ?_ | refine zA ?_ | refine zS ?_ | refine zU ?_ | refine zV ?_ | refine zF ?_ | with_reducible refine yab ?_ | with_reducible refine yad ?_ | refine yaa ?_ | refine yac ?_ | refine yae ?_ | refine zT ?_ | refine zE ?_ | refine zX ?_))
  refine yam rfl (fun h => ?_) (fun h => ?_)
  · obtain rfl := ydd (x := [109, 97, 120]) h
    (repeat (first | refine zI ?_ | refine zL ?_ | refine zC ?_ | refine yag ?_ | refine yaf ?_ | refine zR ?_ | refine zD ?_ | refine zK ?_ | refine zB ?_ | refine zA ?_ | refine zS ?_ | refine zU ?_ | refine zV ?_ | refine zF ?_ | with_reducible refine yab ?_ | with_reducible refine yad ?_ | refine yaa ?_ | refine yac ?_ | refine yae ?_ | refine zT ?_ | refine zE ?_ | refine zX ?_))
    refine yar ?_; refine ⟨_, rfl, ?_⟩
    exact Frz.pure
  have n5 := yde (x := [109, 97, 120]) h
  clear h
  (repeat (first | refine zI ?_ | refine zL ?_ | refine zC ?_ | refine yag ?_ | refine yaf ?_ | refine zR ?_ | refine zD ?_ | refine zK ?_ | refine zB ?_ | refine zA ?_ | refine zS ?_ | refine zU ?_ | refine zV ?_ | refine zF ?_ | with_reducible refine yab ?_ | with_reducible refine yad ?_ | refine yaa ?_ | refine yac ?_ | refine yae ?_ | refine zT ?_ | refine zE ?_ | refine zX ?_))
  refine yam rfl (fun h => ?_) (fun h => ?_)
  · obtain rfl := ydd (x := [115, 117, 109]) h
    (repeat (first | refine zI ?_ | refine zL ?_ | refine zC ?_ | refine yag ?_ | refine yaf ?_ | refine zR ?_ | refine zD ?_ | refine zK ?_ | refine zB ?_ | refine zA ?_ | refine zS ?_ | refine zU ?_ | refine zV ?_ | refine zF ?_ | with_reducible refine yab ?_ | with_reducible refine yad ?_ | refine yaa ?_ | refine yac ?_ | refine yae ?_ | refine zT ?_ | refine zE ?_ | refine zX ?_))
    refine yar ?_; refine ⟨_, rfl, ?_⟩
    exact Frz.pure
  have n6 := yde (x := [115, 117, 109]) h
  clear h
  (repeat (first | refine zI ?_ | refine zL ?_ | refine zC ?_ | refine yag ?_ | refine yaf ?_ | refine zR ?_ | refine zD ?_ | refine zK ?_ | refine zB ?_ | refine zA ?_ | refine zS ?_ | refine zU ?_ | refine zV ?_ | refine zF ?_ | with_reducible refine yab ?_ | with_reducible refine yad ?_ | refine yaa ?_ | refine yac ?_ | refine yae ?_ | refine zT ?_ | refine zE ?_ | refine zX ?_))
  refine yam rfl (fun h => ?_) (fun h => ?_)
  · obtain rfl := ydd (x := [109, 101, 120]) h
    (repeat (first | refine zI ?_ | refine zL ?_ | refine zC ?_ | refine yag ?_ | refine yaf ?_ | refine zR ?_ | refine zD ?_ | refine zK ?_ | refine zB ?_ | refine zA ?_ | refine zS ?_ | refine zU ?_ | refine zV ?_ | refine zF ?_ | with_reducible refine yab ?_ | with_reducible refine yad ?_ | refine yaa ?_ | refine yac ?_ | refine yae ?_ | refine zT ?_ | refine zE ?_ | refine zX ?_))
    refine yar ?_; refine ⟨_, rfl, ?_⟩
    exact Frz.pure
  have n7 := yde (x := [109, 101, 120]) h
  clear h
  (repeat (first | refine zI ?_ | refine zL ?_ | refine zC ?_ | refine yag ?_ | refine yaf ?_ | refine zR ?_ | refine zD ?_ | refine zK ?_ | refine zB ?_ | refine zA ?_ | refine zS ?_ | refine zU ?_ | refine zV ?_ | refine zF ?_ | with_reducible refine yab ?_ | with_reducible refine yad ?_ | refine yaa ?_ | refine yac ?_ | refine yae ?_ | refine zT ?_ | refine zE ?_ | refine zX ?_))
  refine yam rfl (fun h => ?_) (fun h => ?_)
  · obtain rfl := ydd (x := [115, 101, 99, 111, 110, 100]) h
    (repeat (first | refine zI ?_ | refine zL ?_ | refine zC ?_ | refine yag ?_ | refine yaf ?_ | refine zR ?_ | refine zD ?_ | refine zK ?_ | refine zB ?_ | refine zA ?_ | refine zS ?_ | refine zU ?_ | refine zV ?_ | refine zF ?_ | with_reducible refine yab ?_ | with_reducible refine yad ?_ | refine yaa ?_ | refine yac ?_ | refine yae ?_ | refine zT ?_ | refine zE ?_ | refine zX ?_))
    refine yar ?_; refine ⟨_, rfl, ?_⟩
    exact Frz.pure
  have n8 := yde (x := [115, 101, 99, 111, 110, 100]) h
  clear h
  (repeat (first | refine zI ?_ | refine zL ?_ | refine zC ?_ | refine yag ?_ | refine yaf ?_ | refine zR ?_ | refine zD ?_ | refine zK ?_ | refine zB ?_ | refine zA ?_ | refine zS ?_ | refine zU ?_ | refine zV ?_ | refine zF ?_ | with_reducible refine yab ?_ | with_reducible refine yad ?_ | refine yaa ?_ | refine yac ?_ | refine yae ?_ | refine zT ?_ | refine zE ?_ | refine zX ?_))
  refine yam rfl (fun h => ?_) (fun h => ?_)
  · obtain rfl := ydd (x := [104, 101, 97, 100]) h
    (repeat (first | refine zI ?_ | refine zL ?_ | refine zC ?_ | refine yag ?_ | refine yaf ?_ | refine zR ?_ | refine zD ?_ | refine zK ?_ | refine zB ?_ | refine zA ?_ | refine zS ?_ | refine zU ?_ | refine zV ?_ | refine zF ?_ | with_reducible refine yab ?_ | with_reducible refine yad ?_ | refine yaa ?_ | refine yac ?_ | refine yae ?_ | refine zT ?_ | refine zE ?_ | refine zX ?_))
    refine yar ?_; refine ⟨_, rfl, ?_⟩
    exact Frz.pure
  have n9 := yde (x := [104, 101, 97, 100]) h
  clear h
  (repeat (first | refine zI ?_ | refine zL ?_ | refine zC ?_ | refine yag ?_ | refine yaf ?_ | refine zR ?_ | refine zD ?_ | refine zK ?_ | refine zB ?_ | refine zA ?_ | refine zS ?_ | refine zU ?_ | refine zV ?_ | refine zF ?_ | with_reducible refine yab ?_ | with_reducible refine yad ?_ | refine yaa ?_ | refine yac ?_ | refine yae ?_ | refine zT ?_ | refine zE ?_ | refine zX ?_))
  refine yar ?_; refine ⟨_, rfl, ?_⟩
  have h0 : aggO w = 0 := findL_none (by simp [aggL]; exact ⟨n0, n1, n2, n3, n4, n5, n6, n7, n8, n9⟩)
  rw [h0]
  exact Frz.pure
theorem sign_rf (w : Bs) : Con Tryz.prog 99 [yey (ba w)] (.tup [i64 (binO w), i64 (if binO w = 0 then 0 else yef (binO w) + 1)]) := by
  refine ybw Tryz.func99 rfl rfl Tryz.ntmps99 Tryz.results99 rfl rfl ?_
  (repeat (first | refine zI ?_ | refine zL ?_ | refine zC ?_ | refine yag ?_ | refine yaf ?_ | refine zR ?_ | refine zD ?_ | refine zK ?_ | refine zB ?_ | refine zA ?_ | refine zS ?_ | refine zU ?_ | refine zV ?_ | refine zF ?_ | with_reducible refine yab ?_ | with_reducible refine yad ?_ | refine yaa ?_ | refine yac ?_ | refine yae ?_ | refine zT ?_ | refine zE ?_ | refine zX ?_))
  refine yam rfl (fun h => ?_) (fun h => ?_)
  · obtain rfl := ydd (x := [124, 124]) h
    (repeat (first | refine zI ?_ | refine zL ?_ | refine zC ?_ | refine yag ?_ | refine yaf ?_ | refine zR ?_ | refine zD ?_ | refine zK ?_ | refine zB ?_ | refine zA ?_ | refine zS ?_ | refine zU ?_ | refine zV ?_ | refine zF ?_ | with_reducible refine yab ?_ | with_reducible refine yad ?_ | refine yaa ?_ | refine yac ?_ | refine yae ?_ | refine zT ?_ | refine zE ?_ | refine zX ?_))
    refine yar ?_; refine ⟨_, rfl, ?_⟩
    exact Frz.pure
  have n0 := yde (x := [124, 124]) h
  clear h
  (repeat (first | refine zI ?_ | refine zL ?_ | refine zC ?_ | refine yag ?_ | refine yaf ?_ | refine zR ?_ | refine zD ?_ | refine zK ?_ | refine zB ?_ | refine zA ?_ | refine zS ?_ | refine zU ?_ | refine zV ?_ | refine zF ?_ | with_reducible refine yab ?_ | with_reducible refine yad ?_ | refine yaa ?_ | refine yac ?_ | refine yae ?_ | refine zT ?_ | refine zE ?_ | refine zX ?_))
  refine yam rfl (fun h => ?_) (fun h => ?_)
  · obtain rfl := ydd (x := [38, 38]) h
    (repeat (first | refine zI ?_ | refine zL ?_ | refine zC ?_ | refine yag ?_ | refine yaf ?_ | refine zR ?_ | refine zD ?_ | refine zK ?_ | refine zB ?_ | refine zA ?_ | refine zS ?_ | refine zU ?_ | refine zV ?_ | refine zF ?_ | with_reducible refine yab ?_ | with_reducible refine yad ?_ | refine yaa ?_ | refine yac ?_ | refine yae ?_ | refine zT ?_ | refine zE ?_ | refine zX ?_))
    refine yar ?_; refine ⟨_, rfl, ?_⟩
    exact Frz.pure
  have n1 := yde (x := [38, 38]) h
  clear h
  (repeat (first | refine zI ?_ | refine zL ?_ | refine zC ?_ | refine yag ?_ | refine yaf ?_ | refine zR ?_ | refine zD ?_ | refine zK ?_ | refine zB ?_ | refine zA ?_ | refine zS ?_ | refine zU ?_ | refine zV ?_ | refine zF ?_ | with_reducible refine yab ?_ | with_reducible refine yad ?_ | refine yaa ?_ | refine yac ?_ | refine yae ?_ | refine zT ?_ | refine zE ?_ | refine zX ?_))
  refine yam rfl (fun h => ?_) (fun h => ?_)
  · obtain rfl := ydd (x := [61, 61]) h
    (repeat (first | refine zI ?_ | refine zL ?_ | refine zC ?_ | refine yag ?_ | refine yaf ?_ | refine zR ?_ | refine zD ?_ | refine zK ?_ | refine zB ?_ | refine zA ?_ | refine zS ?_ | refine zU ?_ | refine zV ?_ | refine zF ?_ | with_reducible refine yab ?_ | with_reducible refine yad ?_ | refine yaa ?_ | refine yac ?_ | refine yae ?_ | refine zT ?_ | refine zE ?_ | refine zX ?_))
    refine yar ?_; refine ⟨_, rfl, ?_⟩
    exact Frz.pure
  have n2 := yde (x := [61, 61]) h
  clear h
  (repeat (first | refine zI ?_ | refine zL ?_ | refine zC ?_ | refine yag ?_ | refine yaf ?_ | refine zR ?_ | refine zD ?_ | refine zK ?_ | refine zB ?_ | refine zA ?_ | refine zS ?_ | refine zU ?_ | refine zV ?_ | refine zF ?_ | with_reducible refine yab ?_ | with_reducible refine yad ?_ | refine yaa ?_ | refine yac ?_ | refine yae ?_ | refine zT ?_ | refine zE ?_ | refine zX ?_))
  refine yam rfl (fun h => ?_) (fun h => ?_)
  · obtain rfl := ydd (x := [33, 61]) h
    (repeat (first | refine zI ?_ | refine zL ?_ | refine zC ?_ | refine yag ?_ | refine yaf ?_ | refine zR ?_ | refine zD ?_ | refine zK ?_ | refine zB ?_ | refine zA ?_ | refine zS ?_ | refine zU ?_ | refine zV ?_ | refine zF ?_ | with_reducible refine yab ?_ | with_reducible refine yad ?_ | refine yaa ?_ | refine yac ?_ | refine yae ?_ | refine zT ?_ | refine zE ?_ | refine zX ?_))
    refine yar ?_; refine ⟨_, rfl, ?_⟩
    exact Frz.pure
  have n3 := yde (x := [33, 61]) h
  clear h
  (repeat (first | refine zI ?_ | refine zL ?_ | refine zC ?_ | refine yag ?_ | refine yaf ?_ | refine zR ?_ | refine zD ?_ | refine zK ?_ | refine zB ?_ | refine zA ?_ | refine zS ?_ | refine zU ?_ | refine zV ?_ | refine zF ?_ | with_reducible refine yab ?_ | with_reducible refine yad ?_ | refine yaa ?_ | refine yac ?_ | refine yae ?_ | refine zT ?_ | refine zE ?_ | refine zX ?_))
  refine yam rfl (fun h => ?_) (fun h => ?_)
  · obtain rfl := ydd (x := [60]) h
    (repeat (first | refine zI ?_ | refine zL ?_ | refine zC ?_ | refine yag ?_ | refine yaf ?_ | refine zR ?_ | refine zD ?_ | refine zK ?_ | refine zB ?_ | refine zA ?_ | refine zS ?_ | refine zU ?_ | refine zV ?_ | refine zF ?_ | with_reducible refine yab ?_ | with_reducible refine yad ?_ | refine yaa ?_ | refine yac ?_ | refine yae ?_ | refine zT ?_ | refine zE ?_ | refine zX ?_))
    refine yar ?_; refine ⟨_, rfl, ?_⟩
    exact Frz.pure
  have n4 := yde (x := [60]) h
  clear h
  (repeat (first | refine zI ?_ | refine zL ?_ | refine zC ?_ | refine yag ?_ | refine yaf ?_ | refine zR ?_ | refine zD ?_ | refine zK ?_ | refine zB ?_ | refine zA ?_ | refine zS ?_ | refine zU ?_ | refine zV ?_ | refine zF ?_ | with_reducible refine yab ?_ | with_reducible refine yad ?_ | refine yaa ?_ | refine yac ?_ | refine yae ?_ | refine zT ?_ | refine zE ?_ | refine zX ?_))
  refine yam rfl (fun h => ?_) (fun h => ?_)
  · obtain rfl := ydd (x := [60, 61]) h
    (repeat (first | refine zI ?_ | refine zL ?_ | refine zC ?_ | refine yag ?_ | refine yaf ?_ | refine zR ?_ | refine zD ?_ | refine zK ?_ | refine zB ?_ | refine zA ?_ | refine zS ?_ | refine zU ?_ | refine zV ?_ | refine zF ?_ | with_reducible refine yab ?_ | with_reducible refine yad ?_ | refine yaa ?_ | refine yac ?_ | refine yae ?_ | refine zT ?_ | refine zE ?_ | refine zX ?_))
    refine yar ?_; refine ⟨_, rfl, ?_⟩
    exact Frz.pure
  have n5 := yde (x := [60, 61]) h
  clear h
  (repeat (first | refine zI ?_ | refine zL ?_ | refine zC ?_ | refine yag ?_ | refine yaf ?_ | refine zR ?_ | refine zD ?_ | refine zK ?_ | refine zB ?_ | refine zA ?_ | refine zS ?_ | refine zU ?_ | refine zV ?_ | refine zF ?_ | with_reducible refine yab ?_ | with_reducible refine yad ?_ | refine yaa ?_ | refine yac ?_ | refine yae ?_ | refine zT ?_ | refine zE ?_ | refine zX ?_))
  refine yam rfl (fun h => ?_) (fun h => ?_)
  · obtain rfl := ydd (x := [62]) h
    (repeat (first | refine zI ?_ | refine zL ?_ | refine zC ?_ | refine yag ?_ | refine yaf ?_ | refine zR ?_ | refine zD ?_ | refine zK ?_ | refine zB ?_ | refine zA ?_ | refine zS ?_ | refine zU ?_ | refine zV ?_ | refine zF ?_ | with_reducible refine yab ?_ | with_reducible refine yad ?_ | refine yaa ?_ | refine yac ?_ | refine yae ?_ | refine zT ?_ | refine zE ?_ | refine zX ?_))
    refine yar ?_; refine ⟨_, rfl, ?_⟩
    exact Frz.pure
  have n6 := yde (x := [62]) h
  clear h
  (repeat (first | refine zI ?_ | refine zL ?_ | refine zC ?_ | refine yag ?_ | refine yaf ?_ | refine zR ?_ | refine zD ?_ | refine zK ?_ | refine zB ?_ | refine zA ?_ | refine zS ?_ | refine zU ?_ | refine zV ?_ | refine zF ?_ | with_reducible refine yab ?_ | with_reducible refine yad ?_ | refine yaa ?_ | refine yac ?_ | refine yae ?_ | refine zT ?_ | refine zE ?_ | refine zX ?_))
  refine yam rfl (fun h => ?_) (fun h => ?_)
  · obtain rfl := ydd (x := [62, 61]) h
    (repeat (first | refine zI ?_ | refine zL ?_ | refine zC ?_ | refine yag ?_ | refine yaf ?_ | refine zR ?_ | refine zD ?_ | refine zK ?_ | refine zB ?_ | refine zA ?_ | refine zS ?_ | refine zU ?_ | refine zV ?_ | refine zF ?_ | with_reducible refine yab ?_ | with_reducible refine yad ?_ | refine yaa ?_ | refine yac ?_ | refine yae ?_ | refine zT ?_ | refine zE ?_ | refine zX ?_))
    refine yar ?_; refine ⟨_, rfl, ?_⟩
    exact Frz.pure
  have n7 := yde (x := [62, 61]) h
  clear h
  (repeat (first | refine zI ?_ | refine zL ?_ | refine zC ?_ | refine yag ?_ | refine yaf ?_ | refine zR ?_ | refine zD ?_ | refine zK ?_ | refine zB ?_ | refine zA ?_ | refine zS ?_ | refine zU ?_ | refine zV ?_ | refine zF ?_ | with_reducible refine yab ?_ | with_reducible refine yad ?_ | refine yaa ?_ | refine yac ?_ | refine yae ?_ | refine zT ?_ | refine zE ?_ | refine zX ?_))
  refine yam rfl (fun h => ?_) (fun h => ?_)
  · obtain rfl := ydd (x := [43]) h
    (repeat (first | refine zI ?_ | refine zL ?_ | refine zC ?_ | refine yag ?_ | refine yaf ?_ | refine zR ?_ | refine zD ?_ | refine zK ?_ | refine zB ?_ | refine zA ?_ | refine zS ?_ | refine zU ?_ | refine zV ?_ | refine zF ?_ | with_reducible refine yab ?_ | with_reducible refine yad ?_ | refine yaa ?_ | refine yac ?_ | refine yae ?_ | refine zT ?_ | refine zE ?_ | refine zX ?_))
    refine yar ?_; refine ⟨_, rfl, ?_⟩
    exact Frz.pure
  have n8 := yde (x := [43]) h
  clear h
  (repeat (first | refine zI ?_ | refine zL ?_ | refine zC ?_ | refine yag ?_ | refine yaf ?_ | refine zR ?_ | refine zD ?_ | refine zK ?_ | refine zB ?_ | refine zA ?_ | refine zS ?_ | refine zU ?_ | refine zV ?_ | refine zF ?_ | with_reducible refine yab ?_ | with_reducible refine yad ?_ | refine yaa ?_ | refine yac ?_ | refine yae ?_ | refine zT ?_ | refine zE ?_ | refine zX ?_))
  refine yam rfl (fun h => ?_) (fun h => ?_)
  · obtain rfl := ydd (x := [45]) h
    (repeat (first | refine zI ?_ | refine zL ?_ | refine zC ?_ | refine yag ?_ | refine yaf ?_ | refine zR ?_ | refine zD ?_ | refine zK ?_ | refine zB ?_ | refine zA ?_ | refine zS ?_ | refine zU ?_ | refine zV ?_ | refine zF ?_ | with_reducible refine yab ?_ | with_reducible refine yad ?_ | refine yaa ?_ | refine yac ?_ | refine yae ?_ | refine zT ?_ | refine zE ?_ | refine zX ?_))
    refine yar ?_; refine ⟨_, rfl, ?_⟩
    exact Frz.pure
  have n9 := yde (x := [45]) h
  clear h
  (repeat (first | refine zI ?_ | refine zL ?_ | refine zC ?_ | refine yag ?_ | refine yaf ?_ | refine zR ?_ | refine zD ?_ | refine zK ?_ | refine zB ?_ | refine zA ?_ | refine zS ?_ | refine zU ?_ | refine zV ?_ | refine zF ?_ | with_reducible refine yab ?_ | with_reducible refine yad ?_ | refine yaa ?_ | refine yac ?_ | refine yae ?_ | refine zT ?_ | refine zE ?_ | refine zX ?_))
  refine yam rfl (fun h => ?_) (fun h => ?_)
  · obtain rfl := ydd (x := [42]) h
    (repeat (first | refine zI ?_ | refine zL ?_ | refine zC ?_ | refine yag ?_ | refine yaf ?_ | refine zR ?_ | refine zD ?_ | refine zK ?_ | refine zB ?_ | refine zA ?_ | refine zS ?_ | refine zU ?_ | refine zV ?_ | refine zF ?_ | with_reducible refine yab ?_ | with_reducible refine yad ?_ | refine yaa ?_ | refine yac ?_ | refine yae ?_ | refine zT ?_ | refine zE ?_ | refine zX ?_))
    refine yar ?_; refine ⟨_, rfl, ?_⟩
    exact Frz.pure
  have n10 := yde (x := [42]) h
  clear h
  (repeat (first | refine zI ?_ | refine zL ?_ | refine zC ?_ | refine yag ?_ | refine yaf ?_ | refine zR ?_ | refine zD ?_ | refine zK ?_ | refine zB ?_ | refine zA ?_ | refine zS ?_ | refine zU ?_ | refine zV ?_ | refine zF ?_ | with_reducible refine yab ?_ | with_reducible refine yad ?_ | refine yaa ?_ | refine yac ?_ | refine yae ?_ | refine zT ?_ | refine zE ?_ | refine zX ?_))
  refine yam rfl (fun h => ?_) (fun h => ?_)
  · obtain rfl := ydd (x := [47]) h
    (repeat (first | refine zI ?_ | refine zL ?_ | refine zC ?_ | refine yag ?_ | refine yaf ?_ | refine zR ?_ | refine zD ?_ | refine zK ?_ | refine zB ?_ | refine zA ?_ | refine zS ?_ | refine zU ?_ | refine zV ?_ | refine zF ?_ | with_reducible refine yab ?_ | with_reducible refine yad ?_ | refine yaa ?_ | refine yac ?_ | refine yae ?_ | refine zT ?_ | refine zE ?_ | refine zX ?_))
    refine yar ?_; refine ⟨_, rfl, ?_⟩
    exact Frz.pure
  have n11 := yde (x := [47]) h
  clear h
  (repeat (first | refine zI ?_ | refine zL ?_ | refine zC ?_ | refine yag ?_ | refine yaf ?_ | refine zR ?_ | refine zD ?_ | refine zK ?_ | refine zB ?_ | refine zA ?_ | refine zS ?_ | refine zU ?_ | refine zV ?_ | refine zF ?_ | with_reducible refine yab ?_ | with_reducible refine yad ?_ | refine yaa ?_ | refine yac ?_ | refine yae ?_ | refine zT ?_ | refine zE ?_ | refine zX ?_))
  refine yam rfl (fun h => ?_) (fun h => ?_)
  · obtain rfl := ydd (x := [37]) h
    (repeat (first | refine zI ?_ | refine zL ?_ | refine zC ?_ | refine yag ?_ | refine yaf ?_ | refine zR ?_ | refine zD ?_ | refine zK ?_ | refine zB ?_ | refine zA ?_ | refine zS ?_ | refine zU ?_ | refine zV ?_ | refine zF ?_ | with_reducible refine yab ?_ | with_reducible refine yad ?_ | refine yaa ?_ | refine yac ?_ | refine yae ?_ | refine zT ?_ | refine zE ?_ | refine zX ?_))
    refine yar ?_; refine ⟨_, rfl, ?_⟩
    exact Frz.pure
  have n12 := yde (x := [37]) h
  clear h
  (repeat (first | refine zI ?_ | refine zL ?_ | refine zC ?_ | refine yag ?_ | refine yaf ?_ | refine zR ?_ | refine zD ?_ | refine zK ?_ | refine zB ?_ | refine zA ?_ | refine zS ?_ | refine zU ?_ | refine zV ?_ | refine zF ?_ | with_reducible refine yab ?_ | with_reducible refine yad ?_ | refine yaa ?_ | refine yac ?_ | refine yae ?_ | refine zT ?_ | refine zE ?_ | refine zX ?_))
  refine yar ?_; refine ⟨_, rfl, ?_⟩
  have h0 : binO w = 0 := findL_none (by simp [binL]; exact ⟨n10, n11, n12, n8, n9, n2, n3, n4, n5, n6, n7, n1, n0⟩)
  rw [h0]
  exact Frz.pure
end
end Go.Proofs.YtcpgpiabeimefaaGreatDoor
