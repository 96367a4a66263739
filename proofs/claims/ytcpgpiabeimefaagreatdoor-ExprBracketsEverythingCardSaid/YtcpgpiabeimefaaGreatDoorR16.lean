/- Part 16 of the texts under ExprFormats,ExprBracketsEverything: joined, with what it needs alone. -/
import Derived.Test.YtcpgpiabeimefaaGreatDoorR15
set_option linter.unusedVariables false
set_option maxRecDepth 100000
set_option maxHeartbeats 4000000
namespace Go.Proofs.YtcpgpiabeimefaaGreatDoor
open Go.RowKit
section
variable {s : ByteArray} {ts : List Tok} {names : List Bs} {us : List Value}
theorem neighbour_rd (h : yfg s ts) (hl : names.length ≤ 1000) (hs : s.size ≤ 1000000000) {res : Res} (hr : yho nmW names (ts.map (pwT s)) = res) : yif 117 [] s names us ts res := by
  subst hr
  by_cases h1 : ybh (ts.map (pwT s)) = [46]
  · have e1 : (ts.map (pwT s)).tail = ts.tail.map (pwT s) := (List.map_tail).symm
    have hst : ts.tail <:+ ts := List.tail_suffix ts
    have ht := h.suf hst
    by_cases h2 : yfz (ybh (ts.tail.map (pwT s))) = 0
    · have e : yho nmW names (ts.map (pwT s)) = yji nmW names 12 (ts.tail.map (pwT s)) := by rw [yho, if_pos h1, e1, if_pos h2]
      rw [e]
      cases hv : yji nmW names 12 (ts.tail.map (pwT s)) with
      | bad c rest =>
        have hrl : ts.tail.length = rest.length := by
          have := var_rest hv
          rw [this, List.length_map]
        refine ybl Tryz.func117 rfl rfl Tryz.ntmps117 Tryz.results117 rfl rfl ?_
        (repeat (first | with_reducible refine yad ?_ | with_reducible refine yab ?_ | refine yac ?_ | refine yae ?_ | refine yaa ?_)); refine yah (lf := lfT) rfl ?_
        (repeat (first | refine zI ?_ | refine zL ?_ | refine zC ?_ | refine zK ?_ | refine zB ?_ | refine zA ?_ | refine zS ?_ | refine zU ?_ | refine zV ?_ | refine zF ?_ | refine zX ?_ | refine yaf ?_))
        (repeat (first | with_reducible refine yad ?_ | with_reducible refine yab ?_ | refine yac ?_ | refine yae ?_ | refine yaa ?_)); refine yah (lf := lfT) rfl ?_
        (repeat (first | refine zI ?_ | refine zL ?_ | refine zC ?_ | refine zK ?_ | refine zB ?_ | refine zA ?_ | refine zS ?_ | refine zU ?_ | refine zV ?_ | refine zF ?_ | refine zX ?_ | refine yaf ?_ | refine ybx 1001 (yby h h1 (by simp)) rfl rfl rfl rfl rfl rfl rfl rfl rfl rfl ?_))
        (repeat (first | with_reducible refine yad ?_ | with_reducible refine yab ?_ | refine yac ?_ | refine yae ?_ | refine yaa ?_))
        refine zE ?_
        (repeat (first | with_reducible refine yad ?_ | with_reducible refine yab ?_ | refine yac ?_ | refine yae ?_ | refine yaa ?_)); refine yah (lf := lfT) rfl ?_
        (repeat (first | refine zI ?_ | refine zL ?_ | refine zC ?_ | refine zK ?_ | refine zB ?_ | refine zA ?_ | refine zS ?_ | refine zU ?_ | refine zV ?_ | refine zF ?_ | refine zX ?_ | refine yaf ?_ | refine ybx 1001 (yci ht) rfl rfl rfl rfl rfl rfl rfl rfl rfl rfl ?_ | refine yal rfl rfl (fieldOp_con (ybh (ts.tail.map (pwT s)))) rfl rfl ?_))
        rw [h2]
        (repeat (first | refine zI ?_ | refine zL ?_ | refine zC ?_ | refine zK ?_ | refine zB ?_ | refine zA ?_ | refine zS ?_ | refine zU ?_ | refine zV ?_ | refine zF ?_ | refine zX ?_ | refine yaf ?_))
        (repeat (first | with_reducible refine yad ?_ | with_reducible refine yab ?_ | refine yac ?_ | refine yae ?_ | refine yaa ?_)); refine yah (lf := lfT) rfl ?_
        (repeat (first | refine zI ?_ | refine zL ?_ | refine zC ?_ | refine zK ?_ | refine zB ?_ | refine zA ?_ | refine zS ?_ | refine zU ?_ | refine zV ?_ | refine zF ?_ | refine zX ?_ | refine yaf ?_))
        (repeat (first | with_reducible refine yad ?_ | with_reducible refine yab ?_ | refine yac ?_ | refine yae ?_ | refine yaa ?_))
        refine zE ?_
        (repeat (first | with_reducible refine yad ?_ | with_reducible refine yab ?_ | refine yac ?_ | refine yae ?_ | refine yaa ?_)); refine yav (lf := lfT) 1 rfl rfl rfl ?_
        (repeat (first | refine zI ?_ | refine zL ?_ | refine zC ?_ | refine zK ?_ | refine zB ?_ | refine zA ?_ | refine zS ?_ | refine zU ?_ | refine zV ?_ | refine zF ?_ | refine zX ?_ | refine yaf ?_))
        exact ⟨rfl, yiv 1001 (variable_bad ht hl hs hv) rfl rfl rfl rfl (ycf hst hrl)⟩
      | ok x rest =>
        obtain ⟨t, r, i, hts, hw, hi, rfl, rfl⟩ := var_ok hv
        have hrs : r <:+ ts := (List.suffix_cons t r).trans (hts ▸ hst)
        refine ybl Tryz.func117 rfl rfl Tryz.ntmps117 Tryz.results117 rfl rfl ?_
        (repeat (first | refine zI ?_ | refine zL ?_ | refine zC ?_ | refine yaf ?_ | refine yae ?_ | refine zR ?_ | refine zD ?_ | refine zK ?_ | refine zB ?_ | refine zA ?_ | refine zS ?_ | refine zU ?_ | refine zV ?_ | refine zF ?_ | with_reducible refine yab ?_ | with_reducible refine yad ?_ | refine yaa ?_ | refine yac ?_ | refine yag ?_ | refine zT ?_ | refine zE ?_ | refine zX ?_ | refine ybx 1001 (yby h h1 (by simp)) rfl rfl rfl rfl rfl rfl rfl rfl rfl rfl ?_ | refine ybx 1001 (yci ht) rfl rfl rfl rfl rfl rfl rfl rfl rfl rfl ?_ | refine yal rfl rfl (fieldOp_con (ybh (ts.tail.map (pwT s)))) rfl rfl ?_))
        rw [h2]
        rw [hts] at ht ⊢
        (repeat (first | refine zI ?_ | refine zL ?_ | refine zC ?_ | refine yaf ?_ | refine yae ?_ | refine zR ?_ | refine zD ?_ | refine zK ?_ | refine zB ?_ | refine zA ?_ | refine zS ?_ | refine zU ?_ | refine zV ?_ | refine zF ?_ | with_reducible refine yab ?_ | with_reducible refine yad ?_ | refine yaa ?_ | refine yac ?_ | refine yag ?_ | refine zT ?_ | refine zE ?_ | refine zX ?_ | refine ybx 1001 (variable_ok ht hl hs hw hi) rfl rfl rfl rfl rfl rfl rfl rfl rfl rfl ?_ | refine yal rfl rfl (leaf_con 12 (i : Int)) rfl rfl ?_))
        refine yau ?_
        exact ydb hrs (by simp) rfl rfl rfl
    · have e : yho nmW names (ts.map (pwT s)) = .ok [(yfz (ybh (ts.tail.map (pwT s))), 0)] ((ts.tail.map (pwT s)).tail) := by rw [yho, if_pos h1, e1, if_neg h2]
      rw [e]
      obtain ⟨t, r, hts⟩ : ∃ t r, ts.tail = t :: r := by
        cases hq : ts.tail with
        | nil => rw [hq] at h2; exact absurd rfl h2
        | cons t r => exact ⟨t, r, rfl⟩
      have hrs : r <:+ ts := (List.suffix_cons t r).trans (hts ▸ hst)
      refine ybl Tryz.func117 rfl rfl Tryz.ntmps117 Tryz.results117 rfl rfl ?_
      (repeat (first | refine zI ?_ | refine zL ?_ | refine zC ?_ | refine yaf ?_ | refine yae ?_ | refine zR ?_ | refine zD ?_ | refine zK ?_ | refine zB ?_ | refine zA ?_ | refine zS ?_ | refine zU ?_ | refine zV ?_ | refine zF ?_ | with_reducible refine yab ?_ | with_reducible refine yad ?_ | refine yaa ?_ | refine yac ?_ | refine yag ?_ | refine zT ?_ | refine zE ?_ | refine zX ?_ | refine ybx 1001 (yby h h1 (by simp)) rfl rfl rfl rfl rfl rfl rfl rfl rfl rfl ?_ | refine ybx 1001 (yci ht) rfl rfl rfl rfl rfl rfl rfl rfl rfl rfl ?_ | refine yal rfl rfl (fieldOp_con (ybh (ts.tail.map (pwT s)))) rfl rfl ?_))
      refine yaq rfl (fun h3 => ?_) (fun h3 => ?_)
      · rw [hts]
        (repeat (first | refine zI ?_ | refine zL ?_ | refine zC ?_ | refine yaf ?_ | refine yae ?_ | refine zR ?_ | refine zD ?_ | refine zK ?_ | refine zB ?_ | refine zA ?_ | refine zS ?_ | refine zU ?_ | refine zV ?_ | refine zF ?_ | with_reducible refine yab ?_ | with_reducible refine yad ?_ | refine yaa ?_ | refine yac ?_ | refine yag ?_ | refine zT ?_ | refine zE ?_ | refine zX ?_ | refine ybx 1001 (yfo t r) rfl rfl rfl rfl rfl rfl rfl rfl rfl rfl ?_ | refine yal rfl rfl (leaf_con (yfz (ybh ((t :: r).map (pwT s)))) 0) rfl rfl ?_))
        refine yau ?_
        exact ydb hrs (by simp) rfl rfl rfl
      · exact absurd (by simpa using h3) h2
  · have e : yho nmW names (ts.map (pwT s)) = .ok [(11, 0)] (ts.map (pwT s)) := by rw [yho, if_neg h1]
    rw [e]
    refine ybl Tryz.func117 rfl rfl Tryz.ntmps117 Tryz.results117 rfl rfl ?_
    (repeat (first | refine zI ?_ | refine zL ?_ | refine zC ?_ | refine yaf ?_ | refine yae ?_ | refine zR ?_ | refine zD ?_ | refine zK ?_ | refine zB ?_ | refine zA ?_ | refine zS ?_ | refine zU ?_ | refine zV ?_ | refine zF ?_ | with_reducible refine yab ?_ | with_reducible refine yad ?_ | refine yaa ?_ | refine yac ?_ | refine yag ?_ | refine zT ?_ | refine zE ?_ | refine zX ?_ | refine ybx 1001 (ybo h h1) rfl rfl rfl rfl rfl rfl rfl rfl rfl rfl ?_ | refine yal rfl rfl (leaf_con 11 0) rfl rfl ?_))
    refine yau ?_
    exact ydb (List.suffix_refl _) (by simp) rfl rfl rfl
structure IHp (f : Nat) (s : ByteArray) (names : List Bs) (us : List Value) : Prop where
  choice : ∀ (ts : List Tok) (res : Res), yfg s ts → ts.length ≤ 100000 → PP nmW names f .choice (ts.map (pwT s)) = some res → yif 23 [] s names us ts res
  bin : ∀ (l : Nat), 1 ≤ l → l ≤ 6 → ∀ (ts : List Tok) (res : Res), yfg s ts → ts.length ≤ 100000 → PP nmW names f (.bin l) (ts.map (pwT s)) = some res → yif 45 [i64 l] s names us ts res
  unary : ∀ (ts : List Tok) (res : Res), yfg s ts → ts.length ≤ 100000 → PP nmW names f .unary (ts.map (pwT s)) = some res → yif 82 [] s names us ts res
  prim : ∀ (ts : List Tok) (res : Res), yfg s ts → ts.length ≤ 100000 → PP nmW names f .prim (ts.map (pwT s)) = some res → yif 109 [] s names us ts res
theorem yiq {f : FuncId} {args : List AV} {ts1 : List Tok} {x : List Tm} (h : yif f args s names us ts (.ok x (ts1.map (pwT s)))) (hs : ts1 <:+ ts) : yia Tryz.prog f (.lp 1001 0 :: args) (yao (rdH s ts names us)) (ybc x) (yao (rdH s ts1 names us)) := by
  have h' : yia Tryz.prog f (.lp 1001 0 :: args) (yao (rdH s ts names us)) (ybc x) (yao (rdH s (yku ts (ts1.map (pwT s)).length) names us)) := h
  rw [List.length_map, tsOf_suf hs] at h'
  exact h'
theorem yhe {f : FuncId} {args : List AV} {ts1 : List Tok} {c : Int} (h : yif f args s names us ts (.bad c (ts1.map (pwT s)))) (hs : ts1 <:+ ts) : ykn Tryz.prog f (.lp 1001 0 :: args) (yao (rdH s ts names us)) (yis (ygs s ts1) c) := by
  have h' : ykn Tryz.prog f (.lp 1001 0 :: args) (yao (rdH s ts names us)) (yis (ygs s (yku ts (ts1.map (pwT s)).length)) c) := h
  rw [List.length_map, tsOf_suf hs] at h'
  exact h'
theorem ycm {r : List PW} (h : r <:+ ts.map (pwT s)) : ∃ ts1, ts1 <:+ ts ∧ r = ts1.map (pwT s) := ⟨_, (suf_map h).1, (suf_map h).2.symm⟩
theorem map_cons_inv {ts1 : List Tok} {t : PW} {r : List PW} (h : ts1.map (pwT s) = t :: r) : ∃ t' ts2, ts1 = t' :: ts2 ∧ pwT s t' = t ∧ r = ts2.map (pwT s) := by
  cases ts1 with
  | nil => cases h
  | cons t' ts2 => simp only [List.map_cons, List.cons.injEq] at h; exact ⟨t', ts2, rfl, h.1, h.2.symm⟩
theorem want_no {w : Bs} {ts1 : List PW} (h0 : w ≠ []) (h : ybh ts1 ≠ w ∨ ts1 = []) : ybh ts1 ≠ w := by
  rcases h with h | rfl
  · exact h
  · exact fun e => h0 e.symm
theorem suf_len {ts1 : List Tok} (h : ts1 <:+ ts) : ts1.length ≤ ts.length := h.length_le
theorem tail_map {ts1 : List Tok} : (ts1.map (pwT s)).tail = ts1.tail.map (pwT s) := (List.map_tail).symm
theorem choice_step {f : Nat} (ih : IHp f s names us) (h : yfg s ts) (hlen : ts.length ≤ 100000) {res : Res} (hp : PP nmW names (f + 1) .choice (ts.map (pwT s)) = some res) : yif 23 [] s names us ts res := by
  rw [PP] at hp
  rcases ycd hp with ⟨c, r, h1, h2⟩ | ⟨c, r, h1, rfl⟩
  · have sp1 := yfm _ _ _ _ h1
    obtain ⟨ts1, hs1, rfl⟩ := ycm sp1.1
    have c1 := yiq (ih.bin 1 (by omega) (by omega) ts _ h hlen h1) hs1
    have g1 := h.suf hs1
    have l1 := suf_len hs1
    by_cases hq : ybh (ts1.map (pwT s)) = [63]
    · rw [if_pos hq, tail_map] at h2
      have hst : ts1.tail <:+ ts := (List.tail_suffix ts1).trans hs1
      have gt := h.suf hst
      have lt := suf_len hst
      rcases ycd h2 with ⟨y, r2, h3, h4⟩ | ⟨c', r2, h3, rfl⟩
      · have sp2 := yfm _ _ _ _ h3
        obtain ⟨ts2, hs2, rfl⟩ := ycm sp2.1
        have c2 := yiq (ih.choice ts1.tail _ gt (by omega) h3) hs2
        have hs2' := hs2.trans hst
        have g2 := h.suf hs2'
        have l2 := suf_len hs2'
        rcases wantW_some h4 with ⟨t, r3, ht, htw, h5⟩ | ⟨hne, rfl⟩
        · obtain ⟨t', ts3, rfl, rfl, rfl⟩ := map_cons_inv ht
          have hs3 : ts3 <:+ ts := (List.suffix_cons t' ts3).trans hs2'
          have g3 := h.suf hs3
          have l3 := suf_len hs3
          rcases ycd h5 with ⟨z, r4, h6, h7⟩ | ⟨c', r4, h6, rfl⟩
          · have sp4 := yfm _ _ _ _ h6
            obtain ⟨ts4, hs4, rfl⟩ := ycm sp4.1
            have c4 := yiq (ih.choice ts3 _ g3 (by omega) h6) hs4
            simp only [Option.some.injEq] at h7
            subst h7
            have hb : [c, y, z].flatten.length ≤ 1000000 := by
              have b1 := sp1.2.1
              have b2 := sp2.2.1
              have b4 := sp4.2.1
              simp only [List.length_map, NT.had, List.length_tail, List.length_cons] at b1 b2 b4 l1 l2 l3
              simp only [List.flatten_cons, List.flatten_nil, List.length_append, List.length_nil]
              omega
            refine ybl Tryz.func23 rfl rfl Tryz.ntmps23 Tryz.results23 rfl rfl ?_
            (repeat (first | refine zI ?_ | refine zL ?_ | refine zC ?_ | refine yaf ?_ | refine yae ?_ | refine zR ?_ | refine zD ?_ | refine zK ?_ | refine zB ?_ | refine zA ?_ | refine zS ?_ | refine zU ?_ | refine zV ?_ | refine zF ?_ | with_reducible refine yab ?_ | with_reducible refine yad ?_ | refine yaa ?_ | refine yac ?_ | refine yag ?_ | refine zT ?_ | refine zE ?_ | refine zX ?_ | refine ybx 1001 (c1) rfl rfl rfl rfl rfl rfl rfl rfl rfl rfl ?_ | refine ybx 1001 (yby g1 hq (by simp)) rfl rfl rfl rfl rfl rfl rfl rfl rfl rfl ?_ | refine ybx 1001 (c2) rfl rfl rfl rfl rfl rfl rfl rfl rfl rfl ?_ | refine ybx 1001 (expect_yes g2 htw (by simp)) rfl rfl rfl rfl rfl rfl rfl rfl rfl rfl ?_ | refine ybx 1001 (c4) rfl rfl rfl rfl rfl rfl rfl rfl rfl rfl ?_ | refine yal rfl rfl (operation_con 43 [c, y, z] (by simp) hb) rfl rfl ?_))
            refine yau ?_
            exact ydb (hs4.trans hs3) (by simp) rfl (by simp [ybc]) rfl
          · have sp4 := yfm _ _ _ _ h6
            obtain ⟨ts4, hs4, rfl⟩ := ycm sp4.1
            have c4 := yhe (ih.choice ts3 _ g3 (by omega) h6) hs4
            refine ybl Tryz.func23 rfl rfl Tryz.ntmps23 Tryz.results23 rfl rfl ?_
            (repeat (first | with_reducible refine yad ?_ | with_reducible refine yab ?_ | refine yac ?_ | refine yae ?_ | refine yaa ?_)); refine yah (lf := lfT) rfl ?_
            (repeat (first | refine zI ?_ | refine zL ?_ | refine zC ?_ | refine zK ?_ | refine zB ?_ | refine zA ?_ | refine zS ?_ | refine zU ?_ | refine zV ?_ | refine zF ?_ | refine zX ?_ | refine yaf ?_))
            (repeat (first | with_reducible refine yad ?_ | with_reducible refine yab ?_ | refine yac ?_ | refine yae ?_ | refine yaa ?_)); refine yah (lf := lfT) rfl ?_
            (repeat (first | refine zI ?_ | refine zL ?_ | refine zC ?_ | refine zK ?_ | refine zB ?_ | refine zA ?_ | refine zS ?_ | refine zU ?_ | refine zV ?_ | refine zF ?_ | refine zX ?_ | refine yaf ?_ | refine ybx 1001 (c1) rfl rfl rfl rfl rfl rfl rfl rfl rfl rfl ?_))
            (repeat (first | with_reducible refine yad ?_ | with_reducible refine yab ?_ | refine yac ?_ | refine yae ?_ | refine yaa ?_)); refine yah (lf := lfT) rfl ?_
            (repeat (first | refine zI ?_ | refine zL ?_ | refine zC ?_ | refine zK ?_ | refine zB ?_ | refine zA ?_ | refine zS ?_ | refine zU ?_ | refine zV ?_ | refine zF ?_ | refine zX ?_ | refine yaf ?_ | refine ybx 1001 (yby g1 hq (by simp)) rfl rfl rfl rfl rfl rfl rfl rfl rfl rfl ?_))
            (repeat (first | with_reducible refine yad ?_ | with_reducible refine yab ?_ | refine yac ?_ | refine yae ?_ | refine yaa ?_))
            refine zE ?_
            (repeat (first | with_reducible refine yad ?_ | with_reducible refine yab ?_ | refine yac ?_ | refine yae ?_ | refine yaa ?_)); refine yah (lf := lfT) rfl ?_
            (repeat (first | refine zI ?_ | refine zL ?_ | refine zC ?_ | refine zK ?_ | refine zB ?_ | refine zA ?_ | refine zS ?_ | refine zU ?_ | refine zV ?_ | refine zF ?_ | refine zX ?_ | refine yaf ?_ | refine ybx 1001 (c2) rfl rfl rfl rfl rfl rfl rfl rfl rfl rfl ?_))
            (repeat (first | with_reducible refine yad ?_ | with_reducible refine yab ?_ | refine yac ?_ | refine yae ?_ | refine yaa ?_)); refine yah (lf := lfT) rfl ?_
            (repeat (first | refine zI ?_ | refine zL ?_ | refine zC ?_ | refine zK ?_ | refine zB ?_ | refine zA ?_ | refine zS ?_ | refine zU ?_ | refine zV ?_ | refine zF ?_ | refine zX ?_ | refine yaf ?_ | refine ybx 1001 (expect_yes g2 htw (by simp)) rfl rfl rfl rfl rfl rfl rfl rfl rfl rfl ?_))
            (repeat (first | with_reducible refine yad ?_ | with_reducible refine yab ?_ | refine yac ?_ | refine yae ?_ | refine yaa ?_)); refine yav (lf := lfT) 3 rfl rfl rfl ?_
            (repeat (first | refine zI ?_ | refine zL ?_ | refine zC ?_ | refine zK ?_ | refine zB ?_ | refine zA ?_ | refine zS ?_ | refine zU ?_ | refine zV ?_ | refine zF ?_ | refine zX ?_ | refine yaf ?_))
            exact ⟨rfl, yiv 1001 c4 rfl rfl rfl rfl (ycf (hs4.trans hs3) (by simp))⟩
        · refine ybl Tryz.func23 rfl rfl Tryz.ntmps23 Tryz.results23 rfl rfl ?_
          (repeat (first | with_reducible refine yad ?_ | with_reducible refine yab ?_ | refine yac ?_ | refine yae ?_ | refine yaa ?_)); refine yah (lf := lfT) rfl ?_
          (repeat (first | refine zI ?_ | refine zL ?_ | refine zC ?_ | refine zK ?_ | refine zB ?_ | refine zA ?_ | refine zS ?_ | refine zU ?_ | refine zV ?_ | refine zF ?_ | refine zX ?_ | refine yaf ?_))
          (repeat (first | with_reducible refine yad ?_ | with_reducible refine yab ?_ | refine yac ?_ | refine yae ?_ | refine yaa ?_)); refine yah (lf := lfT) rfl ?_
          (repeat (first | refine zI ?_ | refine zL ?_ | refine zC ?_ | refine zK ?_ | refine zB ?_ | refine zA ?_ | refine zS ?_ | refine zU ?_ | refine zV ?_ | refine zF ?_ | refine zX ?_ | refine yaf ?_ | refine ybx 1001 (c1) rfl rfl rfl rfl rfl rfl rfl rfl rfl rfl ?_))
          (repeat (first | with_reducible refine yad ?_ | with_reducible refine yab ?_ | refine yac ?_ | refine yae ?_ | refine yaa ?_)); refine yah (lf := lfT) rfl ?_
          (repeat (first | refine zI ?_ | refine zL ?_ | refine zC ?_ | refine zK ?_ | refine zB ?_ | refine zA ?_ | refine zS ?_ | refine zU ?_ | refine zV ?_ | refine zF ?_ | refine zX ?_ | refine yaf ?_ | refine ybx 1001 (yby g1 hq (by simp)) rfl rfl rfl rfl rfl rfl rfl rfl rfl rfl ?_))
          (repeat (first | with_reducible refine yad ?_ | with_reducible refine yab ?_ | refine yac ?_ | refine yae ?_ | refine yaa ?_))
          refine zE ?_
          (repeat (first | with_reducible refine yad ?_ | with_reducible refine yab ?_ | refine yac ?_ | refine yae ?_ | refine yaa ?_)); refine yah (lf := lfT) rfl ?_
          (repeat (first | refine zI ?_ | refine zL ?_ | refine zC ?_ | refine zK ?_ | refine zB ?_ | refine zA ?_ | refine zS ?_ | refine zU ?_ | refine zV ?_ | refine zF ?_ | refine zX ?_ | refine yaf ?_ | refine ybx 1001 (c2) rfl rfl rfl rfl rfl rfl rfl rfl rfl rfl ?_))
          (repeat (first | with_reducible refine yad ?_ | with_reducible refine yab ?_ | refine yac ?_ | refine yae ?_ | refine yaa ?_)); refine yav (lf := lfT) 1 rfl rfl rfl ?_
          (repeat (first | refine zI ?_ | refine zL ?_ | refine zC ?_ | refine zK ?_ | refine zB ?_ | refine zA ?_ | refine zS ?_ | refine zU ?_ | refine zV ?_ | refine zF ?_ | refine zX ?_ | refine yaf ?_))
          exact ⟨rfl, yiv 1001 (expect_no g2 (want_no (by simp) hne)) rfl rfl rfl rfl (ycf hs2' (by simp))⟩
      · have sp2 := yfm _ _ _ _ h3
        obtain ⟨ts2, hs2, rfl⟩ := ycm sp2.1
        have c2 := yhe (ih.choice ts1.tail _ gt (by omega) h3) hs2
        refine ybl Tryz.func23 rfl rfl Tryz.ntmps23 Tryz.results23 rfl rfl ?_
        (repeat (first | with_reducible refine yad ?_ | with_reducible refine yab ?_ | refine yac ?_ | refine yae ?_ | refine yaa ?_)); refine yah (lf := lfT) rfl ?_
        (repeat (first | refine zI ?_ | refine zL ?_ | refine zC ?_ | refine zK ?_ | refine zB ?_ | refine zA ?_ | refine zS ?_ | refine zU ?_ | refine zV ?_ | refine zF ?_ | refine zX ?_ | refine yaf ?_))
        (repeat (first | with_reducible refine yad ?_ | with_reducible refine yab ?_ | refine yac ?_ | refine yae ?_ | refine yaa ?_)); refine yah (lf := lfT) rfl ?_
        (repeat (first | refine zI ?_ | refine zL ?_ | refine zC ?_ | refine zK ?_ | refine zB ?_ | refine zA ?_ | refine zS ?_ | refine zU ?_ | refine zV ?_ | refine zF ?_ | refine zX ?_ | refine yaf ?_ | refine ybx 1001 (c1) rfl rfl rfl rfl rfl rfl rfl rfl rfl rfl ?_))
        (repeat (first | with_reducible refine yad ?_ | with_reducible refine yab ?_ | refine yac ?_ | refine yae ?_ | refine yaa ?_)); refine yah (lf := lfT) rfl ?_
        (repeat (first | refine zI ?_ | refine zL ?_ | refine zC ?_ | refine zK ?_ | refine zB ?_ | refine zA ?_ | refine zS ?_ | refine zU ?_ | refine zV ?_ | refine zF ?_ | refine zX ?_ | refine yaf ?_ | refine ybx 1001 (yby g1 hq (by simp)) rfl rfl rfl rfl rfl rfl rfl rfl rfl rfl ?_))
        (repeat (first | with_reducible refine yad ?_ | with_reducible refine yab ?_ | refine yac ?_ | refine yae ?_ | refine yaa ?_))
        refine zE ?_
        (repeat (first | with_reducible refine yad ?_ | with_reducible refine yab ?_ | refine yac ?_ | refine yae ?_ | refine yaa ?_)); refine yav (lf := lfT) 1 rfl rfl rfl ?_
        (repeat (first | refine zI ?_ | refine zL ?_ | refine zC ?_ | refine zK ?_ | refine zB ?_ | refine zA ?_ | refine zS ?_ | refine zU ?_ | refine zV ?_ | refine zF ?_ | refine zX ?_ | refine yaf ?_))
        exact ⟨rfl, yiv 1001 c2 rfl rfl rfl rfl (ycf (hs2.trans hst) (by simp))⟩
    · rw [if_neg hq] at h2
      simp only [Option.some.injEq] at h2
      subst h2
      refine ybl Tryz.func23 rfl rfl Tryz.ntmps23 Tryz.results23 rfl rfl ?_
      (repeat (first | refine zI ?_ | refine zL ?_ | refine zC ?_ | refine yaf ?_ | refine yae ?_ | refine zR ?_ | refine zD ?_ | refine zK ?_ | refine zB ?_ | refine zA ?_ | refine zS ?_ | refine zU ?_ | refine zV ?_ | refine zF ?_ | with_reducible refine yab ?_ | with_reducible refine yad ?_ | refine yaa ?_ | refine yac ?_ | refine yag ?_ | refine zT ?_ | refine zE ?_ | refine zX ?_ | refine ybx 1001 (c1) rfl rfl rfl rfl rfl rfl rfl rfl rfl rfl ?_ | refine ybx 1001 (ybo g1 hq) rfl rfl rfl rfl rfl rfl rfl rfl rfl rfl ?_))
      refine yau ?_
      exact ydb hs1 (by simp) rfl rfl rfl
  · have sp1 := yfm _ _ _ _ h1
    obtain ⟨ts1, hs1, rfl⟩ := ycm sp1.1
    have c1 := yhe (ih.bin 1 (by omega) (by omega) ts _ h hlen h1) hs1
    refine ybl Tryz.func23 rfl rfl Tryz.ntmps23 Tryz.results23 rfl rfl ?_
    (repeat (first | with_reducible refine yad ?_ | with_reducible refine yab ?_ | refine yac ?_ | refine yae ?_ | refine yaa ?_)); refine yah (lf := lfT) rfl ?_
    (repeat (first | refine zI ?_ | refine zL ?_ | refine zC ?_ | refine zK ?_ | refine zB ?_ | refine zA ?_ | refine zS ?_ | refine zU ?_ | refine zV ?_ | refine zF ?_ | refine zX ?_ | refine yaf ?_))
    (repeat (first | with_reducible refine yad ?_ | with_reducible refine yab ?_ | refine yac ?_ | refine yae ?_ | refine yaa ?_)); refine yav (lf := lfT) 1 rfl rfl rfl ?_
    (repeat (first | refine zI ?_ | refine zL ?_ | refine zC ?_ | refine zK ?_ | refine zB ?_ | refine zA ?_ | refine zS ?_ | refine zU ?_ | refine zV ?_ | refine zF ?_ | refine zX ?_ | refine yaf ?_))
    exact ⟨rfl, yiv 1001 c1 rfl rfl rfl rfl (ycf hs1 (by simp))⟩
theorem unary_step {f : Nat} (ih : IHp f s names us) (h : yfg s ts) (hlen : ts.length ≤ 100000) {res : Res} (hp : PP nmW names (f + 1) .unary (ts.map (pwT s)) = some res) : yif 82 [] s names us ts res := by
  rw [PP] at hp
  have hst : ts.tail <:+ ts := List.tail_suffix ts
  have gt := h.suf hst
  have lt := suf_len hst
  by_cases hq : ybh (ts.map (pwT s)) = [45]
  · rw [if_pos hq, tail_map] at hp
    rcases ycd hp with ⟨x, r, h1, h2⟩ | ⟨c, r, h1, rfl⟩
    · have sp1 := yfm _ _ _ _ h1
      obtain ⟨ts1, hs1, rfl⟩ := ycm sp1.1
      have c1 := yiq (ih.unary _ _ gt (by omega) h1) hs1
      simp only [Option.some.injEq] at h2
      subst h2
      have hb : [x].flatten.length ≤ 1000000 := by
        have b1 := sp1.2.1
        simp only [List.length_map, NT.had] at b1
        simp only [List.flatten_cons, List.flatten_nil, List.length_append, List.length_nil]
        omega
      refine ybl Tryz.func82 rfl rfl Tryz.ntmps82 Tryz.results82 rfl rfl ?_
      (repeat (first | refine zI ?_ | refine zL ?_ | refine zC ?_ | refine yaf ?_ | refine yae ?_ | refine zR ?_ | refine zD ?_ | refine zK ?_ | refine zB ?_ | refine zA ?_ | refine zS ?_ | refine zU ?_ | refine zV ?_ | refine zF ?_ | with_reducible refine yab ?_ | with_reducible refine yad ?_ | refine yaa ?_ | refine yac ?_ | refine yag ?_ | refine zT ?_ | refine zE ?_ | refine zX ?_ | refine ybx 1001 (yby h hq (by simp)) rfl rfl rfl rfl rfl rfl rfl rfl rfl rfl ?_ | refine ybx 1001 (c1) rfl rfl rfl rfl rfl rfl rfl rfl rfl rfl ?_ | refine yal rfl rfl (operation_con 18 [x] (by simp) hb) rfl rfl ?_))
      refine yau ?_
      exact ydb (hs1.trans hst) (by simp) rfl (by simp [ybc]) rfl
    · have sp1 := yfm _ _ _ _ h1
      obtain ⟨ts1, hs1, rfl⟩ := ycm sp1.1
      have c1 := yhe (ih.unary _ _ gt (by omega) h1) hs1
      refine ybl Tryz.func82 rfl rfl Tryz.ntmps82 Tryz.results82 rfl rfl ?_
      (repeat (first | with_reducible refine yad ?_ | with_reducible refine yab ?_ | refine yac ?_ | refine yae ?_ | refine yaa ?_)); refine yah (lf := lfT) rfl ?_
      (repeat (first | refine zI ?_ | refine zL ?_ | refine zC ?_ | refine zK ?_ | refine zB ?_ | refine zA ?_ | refine zS ?_ | refine zU ?_ | refine zV ?_ | refine zF ?_ | refine zX ?_ | refine yaf ?_))
      (repeat (first | with_reducible refine yad ?_ | with_reducible refine yab ?_ | refine yac ?_ | refine yae ?_ | refine yaa ?_)); refine yah (lf := lfT) rfl ?_
      (repeat (first | refine zI ?_ | refine zL ?_ | refine zC ?_ | refine zK ?_ | refine zB ?_ | refine zA ?_ | refine zS ?_ | refine zU ?_ | refine zV ?_ | refine zF ?_ | refine zX ?_ | refine yaf ?_ | refine ybx 1001 (yby h hq (by simp)) rfl rfl rfl rfl rfl rfl rfl rfl rfl rfl ?_))
      (repeat (first | with_reducible refine yad ?_ | with_reducible refine yab ?_ | refine yac ?_ | refine yae ?_ | refine yaa ?_))
      refine zT ?_
      (repeat (first | with_reducible refine yad ?_ | with_reducible refine yab ?_ | refine yac ?_ | refine yae ?_ | refine yaa ?_)); refine yav (lf := lfT) 1 rfl rfl rfl ?_
      (repeat (first | refine zI ?_ | refine zL ?_ | refine zC ?_ | refine zK ?_ | refine zB ?_ | refine zA ?_ | refine zS ?_ | refine zU ?_ | refine zV ?_ | refine zF ?_ | refine zX ?_ | refine yaf ?_))
      exact ⟨rfl, yiv 1001 c1 rfl rfl rfl rfl (ycf (hs1.trans hst) (by simp))⟩
  rw [if_neg hq] at hp
  by_cases hq2 : ybh (ts.map (pwT s)) = [33]
  · rw [if_pos hq2, tail_map] at hp
    rcases ycd hp with ⟨x, r, h1, h2⟩ | ⟨c, r, h1, rfl⟩
    · have sp1 := yfm _ _ _ _ h1
      obtain ⟨ts1, hs1, rfl⟩ := ycm sp1.1
      have c1 := yiq (ih.unary _ _ gt (by omega) h1) hs1
      simp only [Option.some.injEq] at h2
      subst h2
      have hb : [x].flatten.length ≤ 1000000 := by
        have b1 := sp1.2.1
        simp only [List.length_map, NT.had] at b1
        simp only [List.flatten_cons, List.flatten_nil, List.length_append, List.length_nil]
        omega
      refine ybl Tryz.func82 rfl rfl Tryz.ntmps82 Tryz.results82 rfl rfl ?_
      (repeat (first | refine zI ?_ | refine zL ?_ | refine zC ?_ | refine yaf ?_ | refine yae ?_ | refine zR ?_ | refine zD ?_ | refine zK ?_ | refine zB ?_ | refine zA ?_ | refine zS ?_ | refine zU ?_ | refine zV ?_ | refine zF ?_ | with_reducible refine yab ?_ | with_reducible refine yad ?_ | refine yaa ?_ | refine yac ?_ | refine yag ?_ | refine zT ?_ | refine zE ?_ | refine zX ?_ | refine ybx 1001 (ybo h hq) rfl rfl rfl rfl rfl rfl rfl rfl rfl rfl ?_ | refine ybx 1001 (yby h hq2 (by simp)) rfl rfl rfl rfl rfl rfl rfl rfl rfl rfl ?_ | refine ybx 1001 (c1) rfl rfl rfl rfl rfl rfl rfl rfl rfl rfl ?_ | refine yal rfl rfl (operation_con 19 [x] (by simp) hb) rfl rfl ?_))
      refine yau ?_
      exact ydb (hs1.trans hst) (by simp) rfl (by simp [ybc]) rfl
    · have sp1 := yfm _ _ _ _ h1
      obtain ⟨ts1, hs1, rfl⟩ := ycm sp1.1
      have c1 := yhe (ih.unary _ _ gt (by omega) h1) hs1
      refine ybl Tryz.func82 rfl rfl Tryz.ntmps82 Tryz.results82 rfl rfl ?_
      (repeat (first | with_reducible refine yad ?_ | with_reducible refine yab ?_ | refine yac ?_ | refine yae ?_ | refine yaa ?_)); refine yah (lf := lfT) rfl ?_
      (repeat (first | refine zI ?_ | refine zL ?_ | refine zC ?_ | refine zK ?_ | refine zB ?_ | refine zA ?_ | refine zS ?_ | refine zU ?_ | refine zV ?_ | refine zF ?_ | refine zX ?_ | refine yaf ?_))
      (repeat (first | with_reducible refine yad ?_ | with_reducible refine yab ?_ | refine yac ?_ | refine yae ?_ | refine yaa ?_)); refine yah (lf := lfT) rfl ?_
      (repeat (first | refine zI ?_ | refine zL ?_ | refine zC ?_ | refine zK ?_ | refine zB ?_ | refine zA ?_ | refine zS ?_ | refine zU ?_ | refine zV ?_ | refine zF ?_ | refine zX ?_ | refine yaf ?_ | refine ybx 1001 (ybo h hq) rfl rfl rfl rfl rfl rfl rfl rfl rfl rfl ?_))
      (repeat (first | with_reducible refine yad ?_ | with_reducible refine yab ?_ | refine yac ?_ | refine yae ?_ | refine yaa ?_))
      refine zE ?_
      (repeat (first | with_reducible refine yad ?_ | with_reducible refine yab ?_ | refine yac ?_ | refine yae ?_ | refine yaa ?_)); refine yah (lf := lfT) rfl ?_
      (repeat (first | refine zI ?_ | refine zL ?_ | refine zC ?_ | refine zK ?_ | refine zB ?_ | refine zA ?_ | refine zS ?_ | refine zU ?_ | refine zV ?_ | refine zF ?_ | refine zX ?_ | refine yaf ?_ | refine ybx 1001 (yby h hq2 (by simp)) rfl rfl rfl rfl rfl rfl rfl rfl rfl rfl ?_))
      (repeat (first | with_reducible refine yad ?_ | with_reducible refine yab ?_ | refine yac ?_ | refine yae ?_ | refine yaa ?_))
      refine zT ?_
      (repeat (first | with_reducible refine yad ?_ | with_reducible refine yab ?_ | refine yac ?_ | refine yae ?_ | refine yaa ?_)); refine yav (lf := lfT) 1 rfl rfl rfl ?_
      (repeat (first | refine zI ?_ | refine zL ?_ | refine zC ?_ | refine zK ?_ | refine zB ?_ | refine zA ?_ | refine zS ?_ | refine zU ?_ | refine zV ?_ | refine zF ?_ | refine zX ?_ | refine yaf ?_))
      exact ⟨rfl, yiv 1001 c1 rfl rfl rfl rfl (ycf (hs1.trans hst) (by simp))⟩
  rw [if_neg hq2] at hp
  have ihp := ih.prim _ _ h hlen hp
  cases res with
  | ok x r =>
    have sp1 := yfm _ _ _ _ hp
    obtain ⟨ts1, hs1, rfl⟩ := ycm sp1.1
    have c1 := yiq ihp hs1
    refine ybl Tryz.func82 rfl rfl Tryz.ntmps82 Tryz.results82 rfl rfl ?_
    (repeat (first | refine zI ?_ | refine zL ?_ | refine zC ?_ | refine yaf ?_ | refine yae ?_ | refine zR ?_ | refine zD ?_ | refine zK ?_ | refine zB ?_ | refine zA ?_ | refine zS ?_ | refine zU ?_ | refine zV ?_ | refine zF ?_ | with_reducible refine yab ?_ | with_reducible refine yad ?_ | refine yaa ?_ | refine yac ?_ | refine yag ?_ | refine zT ?_ | refine zE ?_ | refine zX ?_ | refine ybx 1001 (ybo h hq) rfl rfl rfl rfl rfl rfl rfl rfl rfl rfl ?_ | refine ybx 1001 (ybo h hq2) rfl rfl rfl rfl rfl rfl rfl rfl rfl rfl ?_ | refine ybx 1001 (c1) rfl rfl rfl rfl rfl rfl rfl rfl rfl rfl ?_))
    refine yau ?_
    exact ydb hs1 (by simp) rfl rfl rfl
  | bad c r =>
    have sp1 := yfm _ _ _ _ hp
    obtain ⟨ts1, hs1, rfl⟩ := ycm sp1.1
    have c1 := yhe ihp hs1
    refine ybl Tryz.func82 rfl rfl Tryz.ntmps82 Tryz.results82 rfl rfl ?_
    (repeat (first | with_reducible refine yad ?_ | with_reducible refine yab ?_ | refine yac ?_ | refine yae ?_ | refine yaa ?_)); refine yah (lf := lfT) rfl ?_
    (repeat (first | refine zI ?_ | refine zL ?_ | refine zC ?_ | refine zK ?_ | refine zB ?_ | refine zA ?_ | refine zS ?_ | refine zU ?_ | refine zV ?_ | refine zF ?_ | refine zX ?_ | refine yaf ?_))
    (repeat (first | with_reducible refine yad ?_ | with_reducible refine yab ?_ | refine yac ?_ | refine yae ?_ | refine yaa ?_)); refine yah (lf := lfT) rfl ?_
    (repeat (first | refine zI ?_ | refine zL ?_ | refine zC ?_ | refine zK ?_ | refine zB ?_ | refine zA ?_ | refine zS ?_ | refine zU ?_ | refine zV ?_ | refine zF ?_ | refine zX ?_ | refine yaf ?_ | refine ybx 1001 (ybo h hq) rfl rfl rfl rfl rfl rfl rfl rfl rfl rfl ?_))
    (repeat (first | with_reducible refine yad ?_ | with_reducible refine yab ?_ | refine yac ?_ | refine yae ?_ | refine yaa ?_))
    refine zE ?_
    (repeat (first | with_reducible refine yad ?_ | with_reducible refine yab ?_ | refine yac ?_ | refine yae ?_ | refine yaa ?_)); refine yah (lf := lfT) rfl ?_
    (repeat (first | refine zI ?_ | refine zL ?_ | refine zC ?_ | refine zK ?_ | refine zB ?_ | refine zA ?_ | refine zS ?_ | refine zU ?_ | refine zV ?_ | refine zF ?_ | refine zX ?_ | refine yaf ?_ | refine ybx 1001 (ybo h hq2) rfl rfl rfl rfl rfl rfl rfl rfl rfl rfl ?_))
    (repeat (first | with_reducible refine yad ?_ | with_reducible refine yab ?_ | refine yac ?_ | refine yae ?_ | refine yaa ?_))
    refine zE ?_
    (repeat (first | with_reducible refine yad ?_ | with_reducible refine yab ?_ | refine yac ?_ | refine yae ?_ | refine yaa ?_)); refine yav (lf := lfT) 1 rfl rfl rfl ?_
    (repeat (first | refine zI ?_ | refine zL ?_ | refine zC ?_ | refine zK ?_ | refine zB ?_ | refine zA ?_ | refine zS ?_ | refine zU ?_ | refine zV ?_ | refine zF ?_ | refine zX ?_ | refine yaf ?_))
    exact ⟨rfl, yiv 1001 c1 rfl rfl rfl rfl (ycf hs1 (by simp))⟩
theorem near_suf {nm : Bs → Bool} {names : List Bs} {ts : List PW} {res : Res} (h : yho nm names ts = res) : res.rest <:+ ts := (tame_near (nm := nm) (names := names) ts res (congrArg some h)).1
theorem prim_step {f : Nat} (ih : IHp f s names us) (hl : names.length ≤ 1000) (hs : s.size ≤ 1000000000) (h : yfg s ts) (hlen : ts.length ≤ 100000) {res : Res} (hp : PP nmW names (f + 1) .prim (ts.map (pwT s)) = some res) : yif 109 [] s names us ts res := by
  cases ts with
  | nil =>
    have hv : yji nmW names 5 (List.map (pwT s) []) = .bad 4 [] := rfl
    simp only [List.map_nil, PP, Option.some.injEq] at hp
    subst hp
    refine ybl Tryz.func109 rfl rfl Tryz.ntmps109 Tryz.results109 rfl rfl ?_
    (repeat (first | with_reducible refine yad ?_ | with_reducible refine yab ?_ | refine yac ?_ | refine yae ?_ | refine yaa ?_)); refine yah (lf := lfT) rfl ?_
    (repeat (first | refine zI ?_ | refine zL ?_ | refine zC ?_ | refine zK ?_ | refine zB ?_ | refine zA ?_ | refine zS ?_ | refine zU ?_ | refine zV ?_ | refine zF ?_ | refine zX ?_ | refine yaf ?_))
    (repeat (first | with_reducible refine yad ?_ | with_reducible refine yab ?_ | refine yac ?_ | refine yae ?_ | refine yaa ?_)); refine yah (lf := lfT) rfl ?_
    (repeat (first | refine zI ?_ | refine zL ?_ | refine zC ?_ | refine zK ?_ | refine zB ?_ | refine zA ?_ | refine zS ?_ | refine zU ?_ | refine zV ?_ | refine zF ?_ | refine zX ?_ | refine yaf ?_ | refine ybx 1001 (yci h) rfl rfl rfl rfl rfl rfl rfl rfl rfl rfl ?_))
    (repeat (first | with_reducible refine yad ?_ | with_reducible refine yab ?_ | refine yac ?_ | refine yae ?_ | refine yaa ?_)); refine yah (lf := lfT) rfl ?_
    (repeat (first | refine zI ?_ | refine zL ?_ | refine zC ?_ | refine zK ?_ | refine zB ?_ | refine zA ?_ | refine zS ?_ | refine zU ?_ | refine zV ?_ | refine zF ?_ | refine zX ?_ | refine yaf ?_ | refine ybx 1001 (ydj h) rfl rfl rfl rfl rfl rfl rfl rfl rfl rfl ?_))
    (repeat (first | with_reducible refine yad ?_ | with_reducible refine yab ?_ | refine yac ?_ | refine yae ?_ | refine yaa ?_))
    refine zE ?_
    (repeat (first | with_reducible refine yad ?_ | with_reducible refine yab ?_ | refine yac ?_ | refine yae ?_ | refine yaa ?_)); refine yah (lf := lfT) rfl ?_
    (repeat (first | refine zI ?_ | refine zL ?_ | refine zC ?_ | refine zK ?_ | refine zB ?_ | refine zA ?_ | refine zS ?_ | refine zU ?_ | refine zV ?_ | refine zF ?_ | refine zX ?_ | refine yaf ?_ | refine ybx 1001 (ybo h (w := [40]) (by simp [ybh])) rfl rfl rfl rfl rfl rfl rfl rfl rfl rfl ?_))
    (repeat (first | with_reducible refine yad ?_ | with_reducible refine yab ?_ | refine yac ?_ | refine yae ?_ | refine yaa ?_))
    refine zE ?_
    (repeat (first | with_reducible refine yad ?_ | with_reducible refine yab ?_ | refine yac ?_ | refine yae ?_ | refine yaa ?_)); refine yah (lf := lfT) rfl ?_
    (repeat (first | refine zI ?_ | refine zL ?_ | refine zC ?_ | refine zK ?_ | refine zB ?_ | refine zA ?_ | refine zS ?_ | refine zU ?_ | refine zV ?_ | refine zF ?_ | refine zX ?_ | refine yaf ?_ | refine ybx 1001 (ybo h (w := [113]) (by simp [ybh])) rfl rfl rfl rfl rfl rfl rfl rfl rfl rfl ?_))
    (repeat (first | with_reducible refine yad ?_ | with_reducible refine yab ?_ | refine yac ?_ | refine yae ?_ | refine yaa ?_))
    refine zE ?_
    (repeat (first | with_reducible refine yad ?_ | with_reducible refine yab ?_ | refine yac ?_ | refine yae ?_ | refine yaa ?_)); refine yah (lf := lfT) rfl ?_
    (repeat (first | refine zI ?_ | refine zL ?_ | refine zC ?_ | refine zK ?_ | refine zB ?_ | refine zA ?_ | refine zS ?_ | refine zU ?_ | refine zV ?_ | refine zF ?_ | refine zX ?_ | refine yaf ?_ | refine yal rfl rfl (ycy []) rfl rfl ?_))
    (repeat (first | with_reducible refine yad ?_ | with_reducible refine yab ?_ | refine yac ?_ | refine yae ?_ | refine yaa ?_)); refine yah (lf := lfT) rfl ?_
    (repeat (first | refine zI ?_ | refine zL ?_ | refine zC ?_ | refine zK ?_ | refine zB ?_ | refine zA ?_ | refine zS ?_ | refine zU ?_ | refine zV ?_ | refine zF ?_ | refine zX ?_ | refine yaf ?_))
    (repeat (first | with_reducible refine yad ?_ | with_reducible refine yab ?_ | refine yac ?_ | refine yae ?_ | refine yaa ?_))
    refine zE ?_
    (repeat (first | with_reducible refine yad ?_ | with_reducible refine yab ?_ | refine yac ?_ | refine yae ?_ | refine yaa ?_)); refine yah (lf := lfT) rfl ?_
    (repeat (first | refine zI ?_ | refine zL ?_ | refine zC ?_ | refine zK ?_ | refine zB ?_ | refine zA ?_ | refine zS ?_ | refine zU ?_ | refine zV ?_ | refine zF ?_ | refine zX ?_ | refine yaf ?_ | refine yal rfl rfl (aggregateOp_con []) rfl rfl ?_))
    (repeat (first | with_reducible refine yad ?_ | with_reducible refine yab ?_ | refine yac ?_ | refine yae ?_ | refine yaa ?_)); refine yah (lf := lfT) rfl ?_
    (repeat (first | refine zI ?_ | refine zL ?_ | refine zC ?_ | refine zK ?_ | refine zB ?_ | refine zA ?_ | refine zS ?_ | refine zU ?_ | refine zV ?_ | refine zF ?_ | refine zX ?_ | refine yaf ?_))
    (repeat (first | with_reducible refine yad ?_ | with_reducible refine yab ?_ | refine yac ?_ | refine yae ?_ | refine yaa ?_))
    refine zE ?_
    (repeat (first | with_reducible refine yad ?_ | with_reducible refine yab ?_ | refine yac ?_ | refine yae ?_ | refine yaa ?_)); refine yav (lf := lfT) 1 rfl rfl rfl ?_
    (repeat (first | refine zI ?_ | refine zL ?_ | refine zC ?_ | refine zK ?_ | refine zB ?_ | refine zA ?_ | refine zS ?_ | refine zU ?_ | refine zV ?_ | refine zF ?_ | refine zX ?_ | refine yaf ?_))
    exact ⟨rfl, yiv 1001 (variable_bad h hl hs hv) rfl rfl rfl rfl (ycf (List.suffix_refl _) rfl)⟩
  | cons t r =>
    have hr : r <:+ t :: r := List.suffix_cons t r
    have gr := h.suf hr
    have lr : r.length ≤ 100000 := by simp only [List.length_cons] at hlen; omega
    simp only [List.map_cons, PP] at hp
    by_cases hk2 : t.kind = 2
    · rw [if_pos (show (pwT s t).k = 2 from hk2)] at hp
      simp only [Option.some.injEq] at hp
      subst hp
      refine ybl Tryz.func109 rfl rfl Tryz.ntmps109 Tryz.results109 rfl rfl ?_
      (repeat (first | with_reducible refine yad ?_ | with_reducible refine yab ?_ | refine yac ?_ | refine yae ?_ | refine yaa ?_)); refine yah (lf := lfT) rfl ?_
      (repeat (first | refine zI ?_ | refine zL ?_ | refine zC ?_ | refine zK ?_ | refine zB ?_ | refine zA ?_ | refine zS ?_ | refine zU ?_ | refine zV ?_ | refine zF ?_ | refine zX ?_ | refine yaf ?_))
      (repeat (first | with_reducible refine yad ?_ | with_reducible refine yab ?_ | refine yac ?_ | refine yae ?_ | refine yaa ?_)); refine yah (lf := lfT) rfl ?_
      (repeat (first | refine zI ?_ | refine zL ?_ | refine zC ?_ | refine zK ?_ | refine zB ?_ | refine zA ?_ | refine zS ?_ | refine zU ?_ | refine zV ?_ | refine zF ?_ | refine zX ?_ | refine yaf ?_ | refine ybx 1001 (yci h) rfl rfl rfl rfl rfl rfl rfl rfl rfl rfl ?_))
      (repeat (first | with_reducible refine yad ?_ | with_reducible refine yab ?_ | refine yac ?_ | refine yae ?_ | refine yaa ?_)); refine yah (lf := lfT) rfl ?_
      (repeat (first | refine zI ?_ | refine zL ?_ | refine zC ?_ | refine zK ?_ | refine zB ?_ | refine zA ?_ | refine zS ?_ | refine zU ?_ | refine zV ?_ | refine zF ?_ | refine zX ?_ | refine yaf ?_ | refine ybx 1001 (ydj h) rfl rfl rfl rfl rfl rfl rfl rfl rfl rfl ?_))
      (repeat (first | with_reducible refine yad ?_ | with_reducible refine yab ?_ | refine yac ?_ | refine yae ?_ | refine yaa ?_))
      refine yaq rfl (fun _ => ?_) (fun h9 => absurd h9 (by simp [yhx, hk2]))
      (repeat (first | refine zI ?_ | refine zL ?_ | refine zC ?_ | refine yaf ?_ | refine yae ?_ | refine zR ?_ | refine zD ?_ | refine zK ?_ | refine zB ?_ | refine zA ?_ | refine zS ?_ | refine zU ?_ | refine zV ?_ | refine zF ?_ | with_reducible refine yab ?_ | with_reducible refine yad ?_ | refine yaa ?_ | refine yac ?_ | refine yag ?_ | refine zT ?_ | refine zE ?_ | refine zX ?_ | refine ybx 1001 (yfo t _) rfl rfl rfl rfl rfl rfl rfl rfl rfl rfl ?_ | refine yal rfl rfl (leaf_con 1 t.num) rfl rfl ?_))
      refine yau ?_
      exact ydb hr (by simp) rfl rfl rfl
    rw [if_neg (show ¬ (pwT s t).k = 2 from hk2)] at hp
    by_cases hp1 : (pwT s t).w = [40]
    · rw [if_pos hp1] at hp
      rcases ycd hp with ⟨x, r2, h1, h2⟩ | ⟨c, r2, h1, rfl⟩
      · have sp1 := yfm _ _ _ _ h1
        obtain ⟨ts1, hs1, rfl⟩ := ycm sp1.1
        have c1 := yiq (ih.choice _ _ gr lr h1) hs1
        have g1 := gr.suf hs1
        rcases wantW_some h2 with ⟨t', r3, ht, htw, h5⟩ | ⟨hne, rfl⟩
        · obtain ⟨t', ts2, rfl, rfl, rfl⟩ := map_cons_inv ht
          simp only [Option.some.injEq] at h5
          subst h5
          refine ybl Tryz.func109 rfl rfl Tryz.ntmps109 Tryz.results109 rfl rfl ?_
          (repeat (first | with_reducible refine yad ?_ | with_reducible refine yab ?_ | refine yac ?_ | refine yae ?_ | refine yaa ?_)); refine yah (lf := lfT) rfl ?_
          (repeat (first | refine zI ?_ | refine zL ?_ | refine zC ?_ | refine zK ?_ | refine zB ?_ | refine zA ?_ | refine zS ?_ | refine zU ?_ | refine zV ?_ | refine zF ?_ | refine zX ?_ | refine yaf ?_))
          (repeat (first | with_reducible refine yad ?_ | with_reducible refine yab ?_ | refine yac ?_ | refine yae ?_ | refine yaa ?_)); refine yah (lf := lfT) rfl ?_
          (repeat (first | refine zI ?_ | refine zL ?_ | refine zC ?_ | refine zK ?_ | refine zB ?_ | refine zA ?_ | refine zS ?_ | refine zU ?_ | refine zV ?_ | refine zF ?_ | refine zX ?_ | refine yaf ?_ | refine ybx 1001 (yci h) rfl rfl rfl rfl rfl rfl rfl rfl rfl rfl ?_))
          (repeat (first | with_reducible refine yad ?_ | with_reducible refine yab ?_ | refine yac ?_ | refine yae ?_ | refine yaa ?_)); refine yah (lf := lfT) rfl ?_
          (repeat (first | refine zI ?_ | refine zL ?_ | refine zC ?_ | refine zK ?_ | refine zB ?_ | refine zA ?_ | refine zS ?_ | refine zU ?_ | refine zV ?_ | refine zF ?_ | refine zX ?_ | refine yaf ?_ | refine ybx 1001 (ydj h) rfl rfl rfl rfl rfl rfl rfl rfl rfl rfl ?_))
          (repeat (first | with_reducible refine yad ?_ | with_reducible refine yab ?_ | refine yac ?_ | refine yae ?_ | refine yaa ?_))
          refine yaq rfl (fun h9 => absurd h9 (by simp [yhx]; omega)) (fun _ => ?_)
          (repeat (first | with_reducible refine yad ?_ | with_reducible refine yab ?_ | refine yac ?_ | refine yae ?_ | refine yaa ?_)); refine yah (lf := lfT) rfl ?_
          (repeat (first | refine zI ?_ | refine zL ?_ | refine zC ?_ | refine zK ?_ | refine zB ?_ | refine zA ?_ | refine zS ?_ | refine zU ?_ | refine zV ?_ | refine zF ?_ | refine zX ?_ | refine yaf ?_ | refine ybx 1001 (yby h hp1 (by simp)) rfl rfl rfl rfl rfl rfl rfl rfl rfl rfl ?_))
          (repeat (first | with_reducible refine yad ?_ | with_reducible refine yab ?_ | refine yac ?_ | refine yae ?_ | refine yaa ?_))
          refine zT ?_
          (repeat (first | refine zI ?_ | refine zL ?_ | refine zC ?_ | refine yaf ?_ | refine yae ?_ | refine zR ?_ | refine zD ?_ | refine zK ?_ | refine zB ?_ | refine zA ?_ | refine zS ?_ | refine zU ?_ | refine zV ?_ | refine zF ?_ | with_reducible refine yab ?_ | with_reducible refine yad ?_ | refine yaa ?_ | refine yac ?_ | refine yag ?_ | refine zT ?_ | refine zE ?_ | refine zX ?_ | refine ybx 1001 (c1) rfl rfl rfl rfl rfl rfl rfl rfl rfl rfl ?_ | refine ybx 1001 (expect_yes g1 htw (by simp)) rfl rfl rfl rfl rfl rfl rfl rfl rfl rfl ?_))
          refine yau ?_
          exact ydb (((List.suffix_cons t' ts2).trans hs1).trans hr) (by simp) rfl rfl rfl
        · refine ybl Tryz.func109 rfl rfl Tryz.ntmps109 Tryz.results109 rfl rfl ?_
          (repeat (first | with_reducible refine yad ?_ | with_reducible refine yab ?_ | refine yac ?_ | refine yae ?_ | refine yaa ?_)); refine yah (lf := lfT) rfl ?_
          (repeat (first | refine zI ?_ | refine zL ?_ | refine zC ?_ | refine zK ?_ | refine zB ?_ | refine zA ?_ | refine zS ?_ | refine zU ?_ | refine zV ?_ | refine zF ?_ | refine zX ?_ | refine yaf ?_))
          (repeat (first | with_reducible refine yad ?_ | with_reducible refine yab ?_ | refine yac ?_ | refine yae ?_ | refine yaa ?_)); refine yah (lf := lfT) rfl ?_
          (repeat (first | refine zI ?_ | refine zL ?_ | refine zC ?_ | refine zK ?_ | refine zB ?_ | refine zA ?_ | refine zS ?_ | refine zU ?_ | refine zV ?_ | refine zF ?_ | refine zX ?_ | refine yaf ?_ | refine ybx 1001 (yci h) rfl rfl rfl rfl rfl rfl rfl rfl rfl rfl ?_))
          (repeat (first | with_reducible refine yad ?_ | with_reducible refine yab ?_ | refine yac ?_ | refine yae ?_ | refine yaa ?_)); refine yah (lf := lfT) rfl ?_
          (repeat (first | refine zI ?_ | refine zL ?_ | refine zC ?_ | refine zK ?_ | refine zB ?_ | refine zA ?_ | refine zS ?_ | refine zU ?_ | refine zV ?_ | refine zF ?_ | refine zX ?_ | refine yaf ?_ | refine ybx 1001 (ydj h) rfl rfl rfl rfl rfl rfl rfl rfl rfl rfl ?_))
          (repeat (first | with_reducible refine yad ?_ | with_reducible refine yab ?_ | refine yac ?_ | refine yae ?_ | refine yaa ?_))
          refine yaq rfl (fun h9 => absurd h9 (by simp [yhx]; omega)) (fun _ => ?_)
          (repeat (first | with_reducible refine yad ?_ | with_reducible refine yab ?_ | refine yac ?_ | refine yae ?_ | refine yaa ?_)); refine yah (lf := lfT) rfl ?_
          (repeat (first | refine zI ?_ | refine zL ?_ | refine zC ?_ | refine zK ?_ | refine zB ?_ | refine zA ?_ | refine zS ?_ | refine zU ?_ | refine zV ?_ | refine zF ?_ | refine zX ?_ | refine yaf ?_ | refine ybx 1001 (yby h hp1 (by simp)) rfl rfl rfl rfl rfl rfl rfl rfl rfl rfl ?_))
          (repeat (first | with_reducible refine yad ?_ | with_reducible refine yab ?_ | refine yac ?_ | refine yae ?_ | refine yaa ?_))
          refine zT ?_
          (repeat (first | with_reducible refine yad ?_ | with_reducible refine yab ?_ | refine yac ?_ | refine yae ?_ | refine yaa ?_)); refine yah (lf := lfT) rfl ?_
          (repeat (first | refine zI ?_ | refine zL ?_ | refine zC ?_ | refine zK ?_ | refine zB ?_ | refine zA ?_ | refine zS ?_ | refine zU ?_ | refine zV ?_ | refine zF ?_ | refine zX ?_ | refine yaf ?_ | refine ybx 1001 (c1) rfl rfl rfl rfl rfl rfl rfl rfl rfl rfl ?_))
          (repeat (first | with_reducible refine yad ?_ | with_reducible refine yab ?_ | refine yac ?_ | refine yae ?_ | refine yaa ?_)); refine yav (lf := lfT) 1 rfl rfl rfl ?_
          (repeat (first | refine zI ?_ | refine zL ?_ | refine zC ?_ | refine zK ?_ | refine zB ?_ | refine zA ?_ | refine zS ?_ | refine zU ?_ | refine zV ?_ | refine zF ?_ | refine zX ?_ | refine yaf ?_))
          exact ⟨rfl, yiv 1001 (expect_no g1 (want_no (by simp) hne)) rfl rfl rfl rfl (ycf (hs1.trans hr) (by simp))⟩
      · have sp1 := yfm _ _ _ _ h1
        obtain ⟨ts1, hs1, rfl⟩ := ycm sp1.1
        have c1 := yhe (ih.choice _ _ gr lr h1) hs1
        refine ybl Tryz.func109 rfl rfl Tryz.ntmps109 Tryz.results109 rfl rfl ?_
        (repeat (first | with_reducible refine yad ?_ | with_reducible refine yab ?_ | refine yac ?_ | refine yae ?_ | refine yaa ?_)); refine yah (lf := lfT) rfl ?_
        (repeat (first | refine zI ?_ | refine zL ?_ | refine zC ?_ | refine zK ?_ | refine zB ?_ | refine zA ?_ | refine zS ?_ | refine zU ?_ | refine zV ?_ | refine zF ?_ | refine zX ?_ | refine yaf ?_))
        (repeat (first | with_reducible refine yad ?_ | with_reducible refine yab ?_ | refine yac ?_ | refine yae ?_ | refine yaa ?_)); refine yah (lf := lfT) rfl ?_
        (repeat (first | refine zI ?_ | refine zL ?_ | refine zC ?_ | refine zK ?_ | refine zB ?_ | refine zA ?_ | refine zS ?_ | refine zU ?_ | refine zV ?_ | refine zF ?_ | refine zX ?_ | refine yaf ?_ | refine ybx 1001 (yci h) rfl rfl rfl rfl rfl rfl rfl rfl rfl rfl ?_))
        (repeat (first | with_reducible refine yad ?_ | with_reducible refine yab ?_ | refine yac ?_ | refine yae ?_ | refine yaa ?_)); refine yah (lf := lfT) rfl ?_
        (repeat (first | refine zI ?_ | refine zL ?_ | refine zC ?_ | refine zK ?_ | refine zB ?_ | refine zA ?_ | refine zS ?_ | refine zU ?_ | refine zV ?_ | refine zF ?_ | refine zX ?_ | refine yaf ?_ | refine ybx 1001 (ydj h) rfl rfl rfl rfl rfl rfl rfl rfl rfl rfl ?_))
        (repeat (first | with_reducible refine yad ?_ | with_reducible refine yab ?_ | refine yac ?_ | refine yae ?_ | refine yaa ?_))
        refine yaq rfl (fun h9 => absurd h9 (by simp [yhx]; omega)) (fun _ => ?_)
        (repeat (first | with_reducible refine yad ?_ | with_reducible refine yab ?_ | refine yac ?_ | refine yae ?_ | refine yaa ?_)); refine yah (lf := lfT) rfl ?_
        (repeat (first | refine zI ?_ | refine zL ?_ | refine zC ?_ | refine zK ?_ | refine zB ?_ | refine zA ?_ | refine zS ?_ | refine zU ?_ | refine zV ?_ | refine zF ?_ | refine zX ?_ | refine yaf ?_ | refine ybx 1001 (yby h hp1 (by simp)) rfl rfl rfl rfl rfl rfl rfl rfl rfl rfl ?_))
        (repeat (first | with_reducible refine yad ?_ | with_reducible refine yab ?_ | refine yac ?_ | refine yae ?_ | refine yaa ?_))
        refine zT ?_
        (repeat (first | with_reducible refine yad ?_ | with_reducible refine yab ?_ | refine yac ?_ | refine yae ?_ | refine yaa ?_)); refine yav (lf := lfT) 1 rfl rfl rfl ?_
        (repeat (first | refine zI ?_ | refine zL ?_ | refine zC ?_ | refine zK ?_ | refine zB ?_ | refine zA ?_ | refine zS ?_ | refine zU ?_ | refine zV ?_ | refine zF ?_ | refine zX ?_ | refine yaf ?_))
        exact ⟨rfl, yiv 1001 (c1) rfl rfl rfl rfl (ycf (hs1.trans hr) (by simp))⟩
    rw [if_neg hp1] at hp
    by_cases hp2 : (pwT s t).w = [113]
    · rw [if_pos hp2] at hp
      simp only [Option.some.injEq] at hp
      have hn := neighbour_rd (us := us) gr hl hs hp
      have spn : Sp .prim (r.map (pwT s)) res ∨ True := .inr trivial
      cases res with
      | ok x rest =>
        obtain ⟨ts1, hs1, rfl⟩ := ycm (near_suf hp)
        have c1 := yiq hn hs1
        refine ybl Tryz.func109 rfl rfl Tryz.ntmps109 Tryz.results109 rfl rfl ?_
        (repeat (first | with_reducible refine yad ?_ | with_reducible refine yab ?_ | refine yac ?_ | refine yae ?_ | refine yaa ?_)); refine yah (lf := lfT) rfl ?_
        (repeat (first | refine zI ?_ | refine zL ?_ | refine zC ?_ | refine zK ?_ | refine zB ?_ | refine zA ?_ | refine zS ?_ | refine zU ?_ | refine zV ?_ | refine zF ?_ | refine zX ?_ | refine yaf ?_))
        (repeat (first | with_reducible refine yad ?_ | with_reducible refine yab ?_ | refine yac ?_ | refine yae ?_ | refine yaa ?_)); refine yah (lf := lfT) rfl ?_
        (repeat (first | refine zI ?_ | refine zL ?_ | refine zC ?_ | refine zK ?_ | refine zB ?_ | refine zA ?_ | refine zS ?_ | refine zU ?_ | refine zV ?_ | refine zF ?_ | refine zX ?_ | refine yaf ?_ | refine ybx 1001 (yci h) rfl rfl rfl rfl rfl rfl rfl rfl rfl rfl ?_))
        (repeat (first | with_reducible refine yad ?_ | with_reducible refine yab ?_ | refine yac ?_ | refine yae ?_ | refine yaa ?_)); refine yah (lf := lfT) rfl ?_
        (repeat (first | refine zI ?_ | refine zL ?_ | refine zC ?_ | refine zK ?_ | refine zB ?_ | refine zA ?_ | refine zS ?_ | refine zU ?_ | refine zV ?_ | refine zF ?_ | refine zX ?_ | refine yaf ?_ | refine ybx 1001 (ydj h) rfl rfl rfl rfl rfl rfl rfl rfl rfl rfl ?_))
        (repeat (first | with_reducible refine yad ?_ | with_reducible refine yab ?_ | refine yac ?_ | refine yae ?_ | refine yaa ?_))
        refine yaq rfl (fun h9 => absurd h9 (by simp [yhx]; omega)) (fun _ => ?_)
        (repeat (first | with_reducible refine yad ?_ | with_reducible refine yab ?_ | refine yac ?_ | refine yae ?_ | refine yaa ?_)); refine yah (lf := lfT) rfl ?_
        (repeat (first | refine zI ?_ | refine zL ?_ | refine zC ?_ | refine zK ?_ | refine zB ?_ | refine zA ?_ | refine zS ?_ | refine zU ?_ | refine zV ?_ | refine zF ?_ | refine zX ?_ | refine yaf ?_ | refine ybx 1001 (ybo h (w := [40]) hp1) rfl rfl rfl rfl rfl rfl rfl rfl rfl rfl ?_))
        (repeat (first | with_reducible refine yad ?_ | with_reducible refine yab ?_ | refine yac ?_ | refine yae ?_ | refine yaa ?_))
        refine zE ?_
        (repeat (first | with_reducible refine yad ?_ | with_reducible refine yab ?_ | refine yac ?_ | refine yae ?_ | refine yaa ?_)); refine yah (lf := lfT) rfl ?_
        (repeat (first | refine zI ?_ | refine zL ?_ | refine zC ?_ | refine zK ?_ | refine zB ?_ | refine zA ?_ | refine zS ?_ | refine zU ?_ | refine zV ?_ | refine zF ?_ | refine zX ?_ | refine yaf ?_ | refine ybx 1001 (yby h hp2 (by simp)) rfl rfl rfl rfl rfl rfl rfl rfl rfl rfl ?_))
        (repeat (first | with_reducible refine yad ?_ | with_reducible refine yab ?_ | refine yac ?_ | refine yae ?_ | refine yaa ?_))
        refine zT ?_
        (repeat (first | refine zI ?_ | refine zL ?_ | refine zC ?_ | refine yaf ?_ | refine yae ?_ | refine zR ?_ | refine zD ?_ | refine zK ?_ | refine zB ?_ | refine zA ?_ | refine zS ?_ | refine zU ?_ | refine zV ?_ | refine zF ?_ | with_reducible refine yab ?_ | with_reducible refine yad ?_ | refine yaa ?_ | refine yac ?_ | refine yag ?_ | refine zT ?_ | refine zE ?_ | refine zX ?_ | refine ybx 1001 (c1) rfl rfl rfl rfl rfl rfl rfl rfl rfl rfl ?_))
        refine yau ?_
        exact ydb (hs1.trans hr) (by simp) rfl rfl rfl
      | bad c rest =>
        obtain ⟨ts1, hs1, rfl⟩ := ycm (near_suf hp)
        have c1 := yhe hn hs1
        refine ybl Tryz.func109 rfl rfl Tryz.ntmps109 Tryz.results109 rfl rfl ?_
        (repeat (first | with_reducible refine yad ?_ | with_reducible refine yab ?_ | refine yac ?_ | refine yae ?_ | refine yaa ?_)); refine yah (lf := lfT) rfl ?_
        (repeat (first | refine zI ?_ | refine zL ?_ | refine zC ?_ | refine zK ?_ | refine zB ?_ | refine zA ?_ | refine zS ?_ | refine zU ?_ | refine zV ?_ | refine zF ?_ | refine zX ?_ | refine yaf ?_))
        (repeat (first | with_reducible refine yad ?_ | with_reducible refine yab ?_ | refine yac ?_ | refine yae ?_ | refine yaa ?_)); refine yah (lf := lfT) rfl ?_
        (repeat (first | refine zI ?_ | refine zL ?_ | refine zC ?_ | refine zK ?_ | refine zB ?_ | refine zA ?_ | refine zS ?_ | refine zU ?_ | refine zV ?_ | refine zF ?_ | refine zX ?_ | refine yaf ?_ | refine ybx 1001 (yci h) rfl rfl rfl rfl rfl rfl rfl rfl rfl rfl ?_))
        (repeat (first | with_reducible refine yad ?_ | with_reducible refine yab ?_ | refine yac ?_ | refine yae ?_ | refine yaa ?_)); refine yah (lf := lfT) rfl ?_
        (repeat (first | refine zI ?_ | refine zL ?_ | refine zC ?_ | refine zK ?_ | refine zB ?_ | refine zA ?_ | refine zS ?_ | refine zU ?_ | refine zV ?_ | refine zF ?_ | refine zX ?_ | refine yaf ?_ | refine ybx 1001 (ydj h) rfl rfl rfl rfl rfl rfl rfl rfl rfl rfl ?_))
        (repeat (first | with_reducible refine yad ?_ | with_reducible refine yab ?_ | refine yac ?_ | refine yae ?_ | refine yaa ?_))
        refine yaq rfl (fun h9 => absurd h9 (by simp [yhx]; omega)) (fun _ => ?_)
        (repeat (first | with_reducible refine yad ?_ | with_reducible refine yab ?_ | refine yac ?_ | refine yae ?_ | refine yaa ?_)); refine yah (lf := lfT) rfl ?_
        (repeat (first | refine zI ?_ | refine zL ?_ | refine zC ?_ | refine zK ?_ | refine zB ?_ | refine zA ?_ | refine zS ?_ | refine zU ?_ | refine zV ?_ | refine zF ?_ | refine zX ?_ | refine yaf ?_ | refine ybx 1001 (ybo h (w := [40]) hp1) rfl rfl rfl rfl rfl rfl rfl rfl rfl rfl ?_))
        (repeat (first | with_reducible refine yad ?_ | with_reducible refine yab ?_ | refine yac ?_ | refine yae ?_ | refine yaa ?_))
        refine zE ?_
        (repeat (first | with_reducible refine yad ?_ | with_reducible refine yab ?_ | refine yac ?_ | refine yae ?_ | refine yaa ?_)); refine yah (lf := lfT) rfl ?_
        (repeat (first | refine zI ?_ | refine zL ?_ | refine zC ?_ | refine zK ?_ | refine zB ?_ | refine zA ?_ | refine zS ?_ | refine zU ?_ | refine zV ?_ | refine zF ?_ | refine zX ?_ | refine yaf ?_ | refine ybx 1001 (yby h hp2 (by simp)) rfl rfl rfl rfl rfl rfl rfl rfl rfl rfl ?_))
        (repeat (first | with_reducible refine yad ?_ | with_reducible refine yab ?_ | refine yac ?_ | refine yae ?_ | refine yaa ?_))
        refine zT ?_
        (repeat (first | with_reducible refine yad ?_ | with_reducible refine yab ?_ | refine yac ?_ | refine yae ?_ | refine yaa ?_)); refine yav (lf := lfT) 1 rfl rfl rfl ?_
        (repeat (first | refine zI ?_ | refine zL ?_ | refine zC ?_ | refine zK ?_ | refine zB ?_ | refine zA ?_ | refine zS ?_ | refine zU ?_ | refine zV ?_ | refine zF ?_ | refine zX ?_ | refine yaf ?_))
        exact ⟨rfl, yiv 1001 (c1) rfl rfl rfl rfl (ycf (hs1.trans hr) (by simp))⟩
    rw [if_neg hp2] at hp
    by_cases hc : yfk (pwT s t).w = 0
    case neg =>
      rw [if_pos hc] at hp
      simp only [Option.some.injEq] at hp
      subst hp
      refine ybl Tryz.func109 rfl rfl Tryz.ntmps109 Tryz.results109 rfl rfl ?_
      (repeat (first | with_reducible refine yad ?_ | with_reducible refine yab ?_ | refine yac ?_ | refine yae ?_ | refine yaa ?_)); refine yah (lf := lfT) rfl ?_
      (repeat (first | refine zI ?_ | refine zL ?_ | refine zC ?_ | refine zK ?_ | refine zB ?_ | refine zA ?_ | refine zS ?_ | refine zU ?_ | refine zV ?_ | refine zF ?_ | refine zX ?_ | refine yaf ?_))
      (repeat (first | with_reducible refine yad ?_ | with_reducible refine yab ?_ | refine yac ?_ | refine yae ?_ | refine yaa ?_)); refine yah (lf := lfT) rfl ?_
      (repeat (first | refine zI ?_ | refine zL ?_ | refine zC ?_ | refine zK ?_ | refine zB ?_ | refine zA ?_ | refine zS ?_ | refine zU ?_ | refine zV ?_ | refine zF ?_ | refine zX ?_ | refine yaf ?_ | refine ybx 1001 (yci h) rfl rfl rfl rfl rfl rfl rfl rfl rfl rfl ?_))
      (repeat (first | with_reducible refine yad ?_ | with_reducible refine yab ?_ | refine yac ?_ | refine yae ?_ | refine yaa ?_)); refine yah (lf := lfT) rfl ?_
      (repeat (first | refine zI ?_ | refine zL ?_ | refine zC ?_ | refine zK ?_ | refine zB ?_ | refine zA ?_ | refine zS ?_ | refine zU ?_ | refine zV ?_ | refine zF ?_ | refine zX ?_ | refine yaf ?_ | refine ybx 1001 (ydj h) rfl rfl rfl rfl rfl rfl rfl rfl rfl rfl ?_))
      (repeat (first | with_reducible refine yad ?_ | with_reducible refine yab ?_ | refine yac ?_ | refine yae ?_ | refine yaa ?_))
      refine yaq rfl (fun h9 => absurd h9 (by simp [yhx]; omega)) (fun _ => ?_)
      (repeat (first | with_reducible refine yad ?_ | with_reducible refine yab ?_ | refine yac ?_ | refine yae ?_ | refine yaa ?_)); refine yah (lf := lfT) rfl ?_
      (repeat (first | refine zI ?_ | refine zL ?_ | refine zC ?_ | refine zK ?_ | refine zB ?_ | refine zA ?_ | refine zS ?_ | refine zU ?_ | refine zV ?_ | refine zF ?_ | refine zX ?_ | refine yaf ?_ | refine ybx 1001 (ybo h (w := [40]) hp1) rfl rfl rfl rfl rfl rfl rfl rfl rfl rfl ?_))
      (repeat (first | with_reducible refine yad ?_ | with_reducible refine yab ?_ | refine yac ?_ | refine yae ?_ | refine yaa ?_))
      refine zE ?_
      (repeat (first | with_reducible refine yad ?_ | with_reducible refine yab ?_ | refine yac ?_ | refine yae ?_ | refine yaa ?_)); refine yah (lf := lfT) rfl ?_
      (repeat (first | refine zI ?_ | refine zL ?_ | refine zC ?_ | refine zK ?_ | refine zB ?_ | refine zA ?_ | refine zS ?_ | refine zU ?_ | refine zV ?_ | refine zF ?_ | refine zX ?_ | refine yaf ?_ | refine ybx 1001 (ybo h (w := [113]) hp2) rfl rfl rfl rfl rfl rfl rfl rfl rfl rfl ?_))
      (repeat (first | with_reducible refine yad ?_ | with_reducible refine yab ?_ | refine yac ?_ | refine yae ?_ | refine yaa ?_))
      refine zE ?_
      (repeat (first | with_reducible refine yad ?_ | with_reducible refine yab ?_ | refine yac ?_ | refine yae ?_ | refine yaa ?_)); refine yah (lf := lfT) rfl ?_
      (repeat (first | refine zI ?_ | refine zL ?_ | refine zC ?_ | refine zK ?_ | refine zB ?_ | refine zA ?_ | refine zS ?_ | refine zU ?_ | refine zV ?_ | refine zF ?_ | refine zX ?_ | refine yaf ?_ | refine yal rfl rfl (ycy (pwT s t).w) rfl rfl ?_))
      (repeat (first | with_reducible refine yad ?_ | with_reducible refine yab ?_ | refine yac ?_ | refine yae ?_ | refine yaa ?_)); refine yah (lf := lfT) rfl ?_
      (repeat (first | refine zI ?_ | refine zL ?_ | refine zC ?_ | refine zK ?_ | refine zB ?_ | refine zA ?_ | refine zS ?_ | refine zU ?_ | refine zV ?_ | refine zF ?_ | refine zX ?_ | refine yaf ?_))
      (repeat (first | with_reducible refine yad ?_ | with_reducible refine yab ?_ | refine yac ?_ | refine yae ?_ | refine yaa ?_))
      refine yaq rfl (fun _ => ?_) (fun h9 => absurd h9 (by simp [hc]))
      (repeat (first | refine zI ?_ | refine zL ?_ | refine zC ?_ | refine yaf ?_ | refine yae ?_ | refine zR ?_ | refine zD ?_ | refine zK ?_ | refine zB ?_ | refine zA ?_ | refine zS ?_ | refine zU ?_ | refine zV ?_ | refine zF ?_ | with_reducible refine yab ?_ | with_reducible refine yad ?_ | refine yaa ?_ | refine yac ?_ | refine yag ?_ | refine zT ?_ | refine zE ?_ | refine zX ?_ | refine ybx 1001 (yfo t _) rfl rfl rfl rfl rfl rfl rfl rfl rfl rfl ?_ | refine yal rfl rfl (leaf_con (yfk (pwT s t).w) 0) rfl rfl ?_))
      refine yau ?_
      exact ydb hr (by simp) rfl rfl rfl
    rw [if_neg (by simp [hc])] at hp
    by_cases ha : yko (pwT s t).w = 0
    case neg =>
      rw [if_pos ha] at hp
      rcases wantW_some hp with ⟨t1, r1, ht, htw, h1⟩ | ⟨hne, rfl⟩
      · obtain ⟨t1, ts1, rfl, rfl, rfl⟩ := map_cons_inv ht
        have hs1 : ts1 <:+ t :: t1 :: ts1 := (List.suffix_cons t1 ts1).trans hr
        have g1 := h.suf hs1
        have l1 : ts1.length ≤ 100000 := by simp only [List.length_cons] at lr; omega
        rcases ycd h1 with ⟨x, r2, h2, h3⟩ | ⟨c, r2, h2, rfl⟩
        · have sp2 := yfm _ _ _ _ h2
          obtain ⟨ts2, hs2, rfl⟩ := ycm sp2.1
          have c1 := yiq (ih.choice _ _ g1 l1 h2) hs2
          have g2 := g1.suf hs2
          rcases wantW_some h3 with ⟨t3, r3, ht, htw2, h5⟩ | ⟨hne, rfl⟩
          · obtain ⟨t3, ts3, rfl, rfl, rfl⟩ := map_cons_inv ht
            simp only [Option.some.injEq] at h5
            subst h5
            have hb : [x].flatten.length ≤ 1000000 := by
              have b1 := sp2.2.1
              simp only [List.length_map, NT.had] at b1
              simp only [List.flatten_cons, List.flatten_nil, List.length_append, List.length_nil]
              omega
            refine ybl Tryz.func109 rfl rfl Tryz.ntmps109 Tryz.results109 rfl rfl ?_
            (repeat (first | with_reducible refine yad ?_ | with_reducible refine yab ?_ | refine yac ?_ | refine yae ?_ | refine yaa ?_)); refine yah (lf := lfT) rfl ?_
            (repeat (first | refine zI ?_ | refine zL ?_ | refine zC ?_ | refine zK ?_ | refine zB ?_ | refine zA ?_ | refine zS ?_ | refine zU ?_ | refine zV ?_ | refine zF ?_ | refine zX ?_ | refine yaf ?_))
            (repeat (first | with_reducible refine yad ?_ | with_reducible refine yab ?_ | refine yac ?_ | refine yae ?_ | refine yaa ?_)); refine yah (lf := lfT) rfl ?_
            (repeat (first | refine zI ?_ | refine zL ?_ | refine zC ?_ | refine zK ?_ | refine zB ?_ | refine zA ?_ | refine zS ?_ | refine zU ?_ | refine zV ?_ | refine zF ?_ | refine zX ?_ | refine yaf ?_ | refine ybx 1001 (yci h) rfl rfl rfl rfl rfl rfl rfl rfl rfl rfl ?_))
            (repeat (first | with_reducible refine yad ?_ | with_reducible refine yab ?_ | refine yac ?_ | refine yae ?_ | refine yaa ?_)); refine yah (lf := lfT) rfl ?_
            (repeat (first | refine zI ?_ | refine zL ?_ | refine zC ?_ | refine zK ?_ | refine zB ?_ | refine zA ?_ | refine zS ?_ | refine zU ?_ | refine zV ?_ | refine zF ?_ | refine zX ?_ | refine yaf ?_ | refine ybx 1001 (ydj h) rfl rfl rfl rfl rfl rfl rfl rfl rfl rfl ?_))
            (repeat (first | with_reducible refine yad ?_ | with_reducible refine yab ?_ | refine yac ?_ | refine yae ?_ | refine yaa ?_))
            refine yaq rfl (fun h9 => absurd h9 (by simp [yhx]; omega)) (fun _ => ?_)
            (repeat (first | with_reducible refine yad ?_ | with_reducible refine yab ?_ | refine yac ?_ | refine yae ?_ | refine yaa ?_)); refine yah (lf := lfT) rfl ?_
            (repeat (first | refine zI ?_ | refine zL ?_ | refine zC ?_ | refine zK ?_ | refine zB ?_ | refine zA ?_ | refine zS ?_ | refine zU ?_ | refine zV ?_ | refine zF ?_ | refine zX ?_ | refine yaf ?_ | refine ybx 1001 (ybo h (w := [40]) hp1) rfl rfl rfl rfl rfl rfl rfl rfl rfl rfl ?_))
            (repeat (first | with_reducible refine yad ?_ | with_reducible refine yab ?_ | refine yac ?_ | refine yae ?_ | refine yaa ?_))
            refine zE ?_
            (repeat (first | with_reducible refine yad ?_ | with_reducible refine yab ?_ | refine yac ?_ | refine yae ?_ | refine yaa ?_)); refine yah (lf := lfT) rfl ?_
            (repeat (first | refine zI ?_ | refine zL ?_ | refine zC ?_ | refine zK ?_ | refine zB ?_ | refine zA ?_ | refine zS ?_ | refine zU ?_ | refine zV ?_ | refine zF ?_ | refine zX ?_ | refine yaf ?_ | refine ybx 1001 (ybo h (w := [113]) hp2) rfl rfl rfl rfl rfl rfl rfl rfl rfl rfl ?_))
            (repeat (first | with_reducible refine yad ?_ | with_reducible refine yab ?_ | refine yac ?_ | refine yae ?_ | refine yaa ?_))
            refine zE ?_
            (repeat (first | with_reducible refine yad ?_ | with_reducible refine yab ?_ | refine yac ?_ | refine yae ?_ | refine yaa ?_)); refine yah (lf := lfT) rfl ?_
            (repeat (first | refine zI ?_ | refine zL ?_ | refine zC ?_ | refine zK ?_ | refine zB ?_ | refine zA ?_ | refine zS ?_ | refine zU ?_ | refine zV ?_ | refine zF ?_ | refine zX ?_ | refine yaf ?_ | refine yal rfl rfl (ycy (pwT s t).w) rfl rfl ?_))
            (repeat (first | with_reducible refine yad ?_ | with_reducible refine yab ?_ | refine yac ?_ | refine yae ?_ | refine yaa ?_)); refine yah (lf := lfT) rfl ?_
            (repeat (first | refine zI ?_ | refine zL ?_ | refine zC ?_ | refine zK ?_ | refine zB ?_ | refine zA ?_ | refine zS ?_ | refine zU ?_ | refine zV ?_ | refine zF ?_ | refine zX ?_ | refine yaf ?_))
            (repeat (first | with_reducible refine yad ?_ | with_reducible refine yab ?_ | refine yac ?_ | refine yae ?_ | refine yaa ?_))
            refine yaq rfl (fun h9 => absurd h9 (by simp [hc])) (fun _ => ?_)
            (repeat (first | with_reducible refine yad ?_ | with_reducible refine yab ?_ | refine yac ?_ | refine yae ?_ | refine yaa ?_)); refine yah (lf := lfT) rfl ?_
            (repeat (first | refine zI ?_ | refine zL ?_ | refine zC ?_ | refine zK ?_ | refine zB ?_ | refine zA ?_ | refine zS ?_ | refine zU ?_ | refine zV ?_ | refine zF ?_ | refine zX ?_ | refine yaf ?_ | refine yal rfl rfl (aggregateOp_con (pwT s t).w) rfl rfl ?_))
            (repeat (first | with_reducible refine yad ?_ | with_reducible refine yab ?_ | refine yac ?_ | refine yae ?_ | refine yaa ?_)); refine yah (lf := lfT) rfl ?_
            (repeat (first | refine zI ?_ | refine zL ?_ | refine zC ?_ | refine zK ?_ | refine zB ?_ | refine zA ?_ | refine zS ?_ | refine zU ?_ | refine zV ?_ | refine zF ?_ | refine zX ?_ | refine yaf ?_))
            (repeat (first | with_reducible refine yad ?_ | with_reducible refine yab ?_ | refine yac ?_ | refine yae ?_ | refine yaa ?_))
            refine yaq rfl (fun _ => ?_) (fun h9 => absurd h9 (by simp [ha]))
            (repeat (first | refine zI ?_ | refine zL ?_ | refine zC ?_ | refine yaf ?_ | refine yae ?_ | refine zR ?_ | refine zD ?_ | refine zK ?_ | refine zB ?_ | refine zA ?_ | refine zS ?_ | refine zU ?_ | refine zV ?_ | refine zF ?_ | with_reducible refine yab ?_ | with_reducible refine yad ?_ | refine yaa ?_ | refine yac ?_ | refine yag ?_ | refine zT ?_ | refine zE ?_ | refine zX ?_ | refine ybx 1001 (yfo t _) rfl rfl rfl rfl rfl rfl rfl rfl rfl rfl ?_ | refine ybx 1001 (expect_yes gr htw (by simp)) rfl rfl rfl rfl rfl rfl rfl rfl rfl rfl ?_ | refine ybx 1001 (c1) rfl rfl rfl rfl rfl rfl rfl rfl rfl rfl ?_ | refine ybx 1001 (expect_yes g2 htw2 (by simp)) rfl rfl rfl rfl rfl rfl rfl rfl rfl rfl ?_ | refine yal rfl rfl (operation_con (yko (pwT s t).w) [x] (by simp) hb) rfl rfl ?_))
            refine yau ?_
            exact ydb (((List.suffix_cons t3 ts3).trans hs2).trans hs1) (by simp) rfl (by simp [ybc]) rfl
          · refine ybl Tryz.func109 rfl rfl Tryz.ntmps109 Tryz.results109 rfl rfl ?_
            (repeat (first | with_reducible refine yad ?_ | with_reducible refine yab ?_ | refine yac ?_ | refine yae ?_ | refine yaa ?_)); refine yah (lf := lfT) rfl ?_
            (repeat (first | refine zI ?_ | refine zL ?_ | refine zC ?_ | refine zK ?_ | refine zB ?_ | refine zA ?_ | refine zS ?_ | refine zU ?_ | refine zV ?_ | refine zF ?_ | refine zX ?_ | refine yaf ?_))
            (repeat (first | with_reducible refine yad ?_ | with_reducible refine yab ?_ | refine yac ?_ | refine yae ?_ | refine yaa ?_)); refine yah (lf := lfT) rfl ?_
            (repeat (first | refine zI ?_ | refine zL ?_ | refine zC ?_ | refine zK ?_ | refine zB ?_ | refine zA ?_ | refine zS ?_ | refine zU ?_ | refine zV ?_ | refine zF ?_ | refine zX ?_ | refine yaf ?_ | refine ybx 1001 (yci h) rfl rfl rfl rfl rfl rfl rfl rfl rfl rfl ?_))
            (repeat (first | with_reducible refine yad ?_ | with_reducible refine yab ?_ | refine yac ?_ | refine yae ?_ | refine yaa ?_)); refine yah (lf := lfT) rfl ?_
            (repeat (first | refine zI ?_ | refine zL ?_ | refine zC ?_ | refine zK ?_ | refine zB ?_ | refine zA ?_ | refine zS ?_ | refine zU ?_ | refine zV ?_ | refine zF ?_ | refine zX ?_ | refine yaf ?_ | refine ybx 1001 (ydj h) rfl rfl rfl rfl rfl rfl rfl rfl rfl rfl ?_))
            (repeat (first | with_reducible refine yad ?_ | with_reducible refine yab ?_ | refine yac ?_ | refine yae ?_ | refine yaa ?_))
            refine yaq rfl (fun h9 => absurd h9 (by simp [yhx]; omega)) (fun _ => ?_)
            (repeat (first | with_reducible refine yad ?_ | with_reducible refine yab ?_ | refine yac ?_ | refine yae ?_ | refine yaa ?_)); refine yah (lf := lfT) rfl ?_
            (repeat (first | refine zI ?_ | refine zL ?_ | refine zC ?_ | refine zK ?_ | refine zB ?_ | refine zA ?_ | refine zS ?_ | refine zU ?_ | refine zV ?_ | refine zF ?_ | refine zX ?_ | refine yaf ?_ | refine ybx 1001 (ybo h (w := [40]) hp1) rfl rfl rfl rfl rfl rfl rfl rfl rfl rfl ?_))
            (repeat (first | with_reducible refine yad ?_ | with_reducible refine yab ?_ | refine yac ?_ | refine yae ?_ | refine yaa ?_))
            refine zE ?_
            (repeat (first | with_reducible refine yad ?_ | with_reducible refine yab ?_ | refine yac ?_ | refine yae ?_ | refine yaa ?_)); refine yah (lf := lfT) rfl ?_
            (repeat (first | refine zI ?_ | refine zL ?_ | refine zC ?_ | refine zK ?_ | refine zB ?_ | refine zA ?_ | refine zS ?_ | refine zU ?_ | refine zV ?_ | refine zF ?_ | refine zX ?_ | refine yaf ?_ | refine ybx 1001 (ybo h (w := [113]) hp2) rfl rfl rfl rfl rfl rfl rfl rfl rfl rfl ?_))
            (repeat (first | with_reducible refine yad ?_ | with_reducible refine yab ?_ | refine yac ?_ | refine yae ?_ | refine yaa ?_))
            refine zE ?_
            (repeat (first | with_reducible refine yad ?_ | with_reducible refine yab ?_ | refine yac ?_ | refine yae ?_ | refine yaa ?_)); refine yah (lf := lfT) rfl ?_
            (repeat (first | refine zI ?_ | refine zL ?_ | refine zC ?_ | refine zK ?_ | refine zB ?_ | refine zA ?_ | refine zS ?_ | refine zU ?_ | refine zV ?_ | refine zF ?_ | refine zX ?_ | refine yaf ?_ | refine yal rfl rfl (ycy (pwT s t).w) rfl rfl ?_))
            (repeat (first | with_reducible refine yad ?_ | with_reducible refine yab ?_ | refine yac ?_ | refine yae ?_ | refine yaa ?_)); refine yah (lf := lfT) rfl ?_
            (repeat (first | refine zI ?_ | refine zL ?_ | refine zC ?_ | refine zK ?_ | refine zB ?_ | refine zA ?_ | refine zS ?_ | refine zU ?_ | refine zV ?_ | refine zF ?_ | refine zX ?_ | refine yaf ?_))
            (repeat (first | with_reducible refine yad ?_ | with_reducible refine yab ?_ | refine yac ?_ | refine yae ?_ | refine yaa ?_))
            refine yaq rfl (fun h9 => absurd h9 (by simp [hc])) (fun _ => ?_)
            (repeat (first | with_reducible refine yad ?_ | with_reducible refine yab ?_ | refine yac ?_ | refine yae ?_ | refine yaa ?_)); refine yah (lf := lfT) rfl ?_
            (repeat (first | refine zI ?_ | refine zL ?_ | refine zC ?_ | refine zK ?_ | refine zB ?_ | refine zA ?_ | refine zS ?_ | refine zU ?_ | refine zV ?_ | refine zF ?_ | refine zX ?_ | refine yaf ?_ | refine yal rfl rfl (aggregateOp_con (pwT s t).w) rfl rfl ?_))
            (repeat (first | with_reducible refine yad ?_ | with_reducible refine yab ?_ | refine yac ?_ | refine yae ?_ | refine yaa ?_)); refine yah (lf := lfT) rfl ?_
            (repeat (first | refine zI ?_ | refine zL ?_ | refine zC ?_ | refine zK ?_ | refine zB ?_ | refine zA ?_ | refine zS ?_ | refine zU ?_ | refine zV ?_ | refine zF ?_ | refine zX ?_ | refine yaf ?_))
            (repeat (first | with_reducible refine yad ?_ | with_reducible refine yab ?_ | refine yac ?_ | refine yae ?_ | refine yaa ?_))
            refine yaq rfl (fun _ => ?_) (fun h9 => absurd h9 (by simp [ha]))
            (repeat (first | with_reducible refine yad ?_ | with_reducible refine yab ?_ | refine yac ?_ | refine yae ?_ | refine yaa ?_)); refine yah (lf := lfT) rfl ?_
            (repeat (first | refine zI ?_ | refine zL ?_ | refine zC ?_ | refine zK ?_ | refine zB ?_ | refine zA ?_ | refine zS ?_ | refine zU ?_ | refine zV ?_ | refine zF ?_ | refine zX ?_ | refine yaf ?_ | refine ybx 1001 (yfo t _) rfl rfl rfl rfl rfl rfl rfl rfl rfl rfl ?_))
            (repeat (first | with_reducible refine yad ?_ | with_reducible refine yab ?_ | refine yac ?_ | refine yae ?_ | refine yaa ?_)); refine yah (lf := lfT) rfl ?_
            (repeat (first | refine zI ?_ | refine zL ?_ | refine zC ?_ | refine zK ?_ | refine zB ?_ | refine zA ?_ | refine zS ?_ | refine zU ?_ | refine zV ?_ | refine zF ?_ | refine zX ?_ | refine yaf ?_ | refine ybx 1001 (expect_yes gr htw (by simp)) rfl rfl rfl rfl rfl rfl rfl rfl rfl rfl ?_))
            (repeat (first | with_reducible refine yad ?_ | with_reducible refine yab ?_ | refine yac ?_ | refine yae ?_ | refine yaa ?_)); refine yah (lf := lfT) rfl ?_
            (repeat (first | refine zI ?_ | refine zL ?_ | refine zC ?_ | refine zK ?_ | refine zB ?_ | refine zA ?_ | refine zS ?_ | refine zU ?_ | refine zV ?_ | refine zF ?_ | refine zX ?_ | refine yaf ?_ | refine ybx 1001 (c1) rfl rfl rfl rfl rfl rfl rfl rfl rfl rfl ?_))
            (repeat (first | with_reducible refine yad ?_ | with_reducible refine yab ?_ | refine yac ?_ | refine yae ?_ | refine yaa ?_)); refine yav (lf := lfT) 1 rfl rfl rfl ?_
            (repeat (first | refine zI ?_ | refine zL ?_ | refine zC ?_ | refine zK ?_ | refine zB ?_ | refine zA ?_ | refine zS ?_ | refine zU ?_ | refine zV ?_ | refine zF ?_ | refine zX ?_ | refine yaf ?_))
            exact ⟨rfl, yiv 1001 (expect_no g2 (want_no (by simp) hne)) rfl rfl rfl rfl (ycf (hs2.trans hs1) (by simp))⟩
        · have sp2 := yfm _ _ _ _ h2
          obtain ⟨ts2, hs2, rfl⟩ := ycm sp2.1
          have c1 := yhe (ih.choice _ _ g1 l1 h2) hs2
          refine ybl Tryz.func109 rfl rfl Tryz.ntmps109 Tryz.results109 rfl rfl ?_
          (repeat (first | with_reducible refine yad ?_ | with_reducible refine yab ?_ | refine yac ?_ | refine yae ?_ | refine yaa ?_)); refine yah (lf := lfT) rfl ?_
          (repeat (first | refine zI ?_ | refine zL ?_ | refine zC ?_ | refine zK ?_ | refine zB ?_ | refine zA ?_ | refine zS ?_ | refine zU ?_ | refine zV ?_ | refine zF ?_ | refine zX ?_ | refine yaf ?_))
          (repeat (first | with_reducible refine yad ?_ | with_reducible refine yab ?_ | refine yac ?_ | refine yae ?_ | refine yaa ?_)); refine yah (lf := lfT) rfl ?_
          (repeat (first | refine zI ?_ | refine zL ?_ | refine zC ?_ | refine zK ?_ | refine zB ?_ | refine zA ?_ | refine zS ?_ | refine zU ?_ | refine zV ?_ | refine zF ?_ | refine zX ?_ | refine yaf ?_ | refine ybx 1001 (yci h) rfl rfl rfl rfl rfl rfl rfl rfl rfl rfl ?_))
          (repeat (first | with_reducible refine yad ?_ | with_reducible refine yab ?_ | refine yac ?_ | refine yae ?_ | refine yaa ?_)); refine yah (lf := lfT) rfl ?_
          (repeat (first | refine zI ?_ | refine zL ?_ | refine zC ?_ | refine zK ?_ | refine zB ?_ | refine zA ?_ | refine zS ?_ | refine zU ?_ | refine zV ?_ | refine zF ?_ | refine zX ?_ | refine yaf ?_ | refine ybx 1001 (ydj h) rfl rfl rfl rfl rfl rfl rfl rfl rfl rfl ?_))
          (repeat (first | with_reducible refine yad ?_ | with_reducible refine yab ?_ | refine yac ?_ | refine yae ?_ | refine yaa ?_))
          refine yaq rfl (fun h9 => absurd h9 (by simp [yhx]; omega)) (fun _ => ?_)
          (repeat (first | with_reducible refine yad ?_ | with_reducible refine yab ?_ | refine yac ?_ | refine yae ?_ | refine yaa ?_)); refine yah (lf := lfT) rfl ?_
          (repeat (first | refine zI ?_ | refine zL ?_ | refine zC ?_ | refine zK ?_ | refine zB ?_ | refine zA ?_ | refine zS ?_ | refine zU ?_ | refine zV ?_ | refine zF ?_ | refine zX ?_ | refine yaf ?_ | refine ybx 1001 (ybo h (w := [40]) hp1) rfl rfl rfl rfl rfl rfl rfl rfl rfl rfl ?_))
          (repeat (first | with_reducible refine yad ?_ | with_reducible refine yab ?_ | refine yac ?_ | refine yae ?_ | refine yaa ?_))
          refine zE ?_
          (repeat (first | with_reducible refine yad ?_ | with_reducible refine yab ?_ | refine yac ?_ | refine yae ?_ | refine yaa ?_)); refine yah (lf := lfT) rfl ?_
          (repeat (first | refine zI ?_ | refine zL ?_ | refine zC ?_ | refine zK ?_ | refine zB ?_ | refine zA ?_ | refine zS ?_ | refine zU ?_ | refine zV ?_ | refine zF ?_ | refine zX ?_ | refine yaf ?_ | refine ybx 1001 (ybo h (w := [113]) hp2) rfl rfl rfl rfl rfl rfl rfl rfl rfl rfl ?_))
          (repeat (first | with_reducible refine yad ?_ | with_reducible refine yab ?_ | refine yac ?_ | refine yae ?_ | refine yaa ?_))
          refine zE ?_
          (repeat (first | with_reducible refine yad ?_ | with_reducible refine yab ?_ | refine yac ?_ | refine yae ?_ | refine yaa ?_)); refine yah (lf := lfT) rfl ?_
          (repeat (first | refine zI ?_ | refine zL ?_ | refine zC ?_ | refine zK ?_ | refine zB ?_ | refine zA ?_ | refine zS ?_ | refine zU ?_ | refine zV ?_ | refine zF ?_ | refine zX ?_ | refine yaf ?_ | refine yal rfl rfl (ycy (pwT s t).w) rfl rfl ?_))
          (repeat (first | with_reducible refine yad ?_ | with_reducible refine yab ?_ | refine yac ?_ | refine yae ?_ | refine yaa ?_)); refine yah (lf := lfT) rfl ?_
          (repeat (first | refine zI ?_ | refine zL ?_ | refine zC ?_ | refine zK ?_ | refine zB ?_ | refine zA ?_ | refine zS ?_ | refine zU ?_ | refine zV ?_ | refine zF ?_ | refine zX ?_ | refine yaf ?_))
          (repeat (first | with_reducible refine yad ?_ | with_reducible refine yab ?_ | refine yac ?_ | refine yae ?_ | refine yaa ?_))
          refine yaq rfl (fun h9 => absurd h9 (by simp [hc])) (fun _ => ?_)
          (repeat (first | with_reducible refine yad ?_ | with_reducible refine yab ?_ | refine yac ?_ | refine yae ?_ | refine yaa ?_)); refine yah (lf := lfT) rfl ?_
          (repeat (first | refine zI ?_ | refine zL ?_ | refine zC ?_ | refine zK ?_ | refine zB ?_ | refine zA ?_ | refine zS ?_ | refine zU ?_ | refine zV ?_ | refine zF ?_ | refine zX ?_ | refine yaf ?_ | refine yal rfl rfl (aggregateOp_con (pwT s t).w) rfl rfl ?_))
          (repeat (first | with_reducible refine yad ?_ | with_reducible refine yab ?_ | refine yac ?_ | refine yae ?_ | refine yaa ?_)); refine yah (lf := lfT) rfl ?_
          (repeat (first | refine zI ?_ | refine zL ?_ | refine zC ?_ | refine zK ?_ | refine zB ?_ | refine zA ?_ | refine zS ?_ | refine zU ?_ | refine zV ?_ | refine zF ?_ | refine zX ?_ | refine yaf ?_))
          (repeat (first | with_reducible refine yad ?_ | with_reducible refine yab ?_ | refine yac ?_ | refine yae ?_ | refine yaa ?_))
          refine yaq rfl (fun _ => ?_) (fun h9 => absurd h9 (by simp [ha]))
          (repeat (first | with_reducible refine yad ?_ | with_reducible refine yab ?_ | refine yac ?_ | refine yae ?_ | refine yaa ?_)); refine yah (lf := lfT) rfl ?_
          (repeat (first | refine zI ?_ | refine zL ?_ | refine zC ?_ | refine zK ?_ | refine zB ?_ | refine zA ?_ | refine zS ?_ | refine zU ?_ | refine zV ?_ | refine zF ?_ | refine zX ?_ | refine yaf ?_ | refine ybx 1001 (yfo t _) rfl rfl rfl rfl rfl rfl rfl rfl rfl rfl ?_))
          (repeat (first | with_reducible refine yad ?_ | with_reducible refine yab ?_ | refine yac ?_ | refine yae ?_ | refine yaa ?_)); refine yah (lf := lfT) rfl ?_
          (repeat (first | refine zI ?_ | refine zL ?_ | refine zC ?_ | refine zK ?_ | refine zB ?_ | refine zA ?_ | refine zS ?_ | refine zU ?_ | refine zV ?_ | refine zF ?_ | refine zX ?_ | refine yaf ?_ | refine ybx 1001 (expect_yes gr htw (by simp)) rfl rfl rfl rfl rfl rfl rfl rfl rfl rfl ?_))
          (repeat (first | with_reducible refine yad ?_ | with_reducible refine yab ?_ | refine yac ?_ | refine yae ?_ | refine yaa ?_)); refine yav (lf := lfT) 1 rfl rfl rfl ?_
          (repeat (first | refine zI ?_ | refine zL ?_ | refine zC ?_ | refine zK ?_ | refine zB ?_ | refine zA ?_ | refine zS ?_ | refine zU ?_ | refine zV ?_ | refine zF ?_ | refine zX ?_ | refine yaf ?_))
          exact ⟨rfl, yiv 1001 (c1) rfl rfl rfl rfl (ycf (hs2.trans hs1) (by simp))⟩
      · refine ybl Tryz.func109 rfl rfl Tryz.ntmps109 Tryz.results109 rfl rfl ?_
        (repeat (first | with_reducible refine yad ?_ | with_reducible refine yab ?_ | refine yac ?_ | refine yae ?_ | refine yaa ?_)); refine yah (lf := lfT) rfl ?_
        (repeat (first | refine zI ?_ | refine zL ?_ | refine zC ?_ | refine zK ?_ | refine zB ?_ | refine zA ?_ | refine zS ?_ | refine zU ?_ | refine zV ?_ | refine zF ?_ | refine zX ?_ | refine yaf ?_))
        (repeat (first | with_reducible refine yad ?_ | with_reducible refine yab ?_ | refine yac ?_ | refine yae ?_ | refine yaa ?_)); refine yah (lf := lfT) rfl ?_
        (repeat (first | refine zI ?_ | refine zL ?_ | refine zC ?_ | refine zK ?_ | refine zB ?_ | refine zA ?_ | refine zS ?_ | refine zU ?_ | refine zV ?_ | refine zF ?_ | refine zX ?_ | refine yaf ?_ | refine ybx 1001 (yci h) rfl rfl rfl rfl rfl rfl rfl rfl rfl rfl ?_))
        (repeat (first | with_reducible refine yad ?_ | with_reducible refine yab ?_ | refine yac ?_ | refine yae ?_ | refine yaa ?_)); refine yah (lf := lfT) rfl ?_
        (repeat (first | refine zI ?_ | refine zL ?_ | refine zC ?_ | refine zK ?_ | refine zB ?_ | refine zA ?_ | refine zS ?_ | refine zU ?_ | refine zV ?_ | refine zF ?_ | refine zX ?_ | refine yaf ?_ | refine ybx 1001 (ydj h) rfl rfl rfl rfl rfl rfl rfl rfl rfl rfl ?_))
        (repeat (first | with_reducible refine yad ?_ | with_reducible refine yab ?_ | refine yac ?_ | refine yae ?_ | refine yaa ?_))
        refine yaq rfl (fun h9 => absurd h9 (by simp [yhx]; omega)) (fun _ => ?_)
        (repeat (first | with_reducible refine yad ?_ | with_reducible refine yab ?_ | refine yac ?_ | refine yae ?_ | refine yaa ?_)); refine yah (lf := lfT) rfl ?_
        (repeat (first | refine zI ?_ | refine zL ?_ | refine zC ?_ | refine zK ?_ | refine zB ?_ | refine zA ?_ | refine zS ?_ | refine zU ?_ | refine zV ?_ | refine zF ?_ | refine zX ?_ | refine yaf ?_ | refine ybx 1001 (ybo h (w := [40]) hp1) rfl rfl rfl rfl rfl rfl rfl rfl rfl rfl ?_))
        (repeat (first | with_reducible refine yad ?_ | with_reducible refine yab ?_ | refine yac ?_ | refine yae ?_ | refine yaa ?_))
        refine zE ?_
        (repeat (first | with_reducible refine yad ?_ | with_reducible refine yab ?_ | refine yac ?_ | refine yae ?_ | refine yaa ?_)); refine yah (lf := lfT) rfl ?_
        (repeat (first | refine zI ?_ | refine zL ?_ | refine zC ?_ | refine zK ?_ | refine zB ?_ | refine zA ?_ | refine zS ?_ | refine zU ?_ | refine zV ?_ | refine zF ?_ | refine zX ?_ | refine yaf ?_ | refine ybx 1001 (ybo h (w := [113]) hp2) rfl rfl rfl rfl rfl rfl rfl rfl rfl rfl ?_))
        (repeat (first | with_reducible refine yad ?_ | with_reducible refine yab ?_ | refine yac ?_ | refine yae ?_ | refine yaa ?_))
        refine zE ?_
        (repeat (first | with_reducible refine yad ?_ | with_reducible refine yab ?_ | refine yac ?_ | refine yae ?_ | refine yaa ?_)); refine yah (lf := lfT) rfl ?_
        (repeat (first | refine zI ?_ | refine zL ?_ | refine zC ?_ | refine zK ?_ | refine zB ?_ | refine zA ?_ | refine zS ?_ | refine zU ?_ | refine zV ?_ | refine zF ?_ | refine zX ?_ | refine yaf ?_ | refine yal rfl rfl (ycy (pwT s t).w) rfl rfl ?_))
        (repeat (first | with_reducible refine yad ?_ | with_reducible refine yab ?_ | refine yac ?_ | refine yae ?_ | refine yaa ?_)); refine yah (lf := lfT) rfl ?_
        (repeat (first | refine zI ?_ | refine zL ?_ | refine zC ?_ | refine zK ?_ | refine zB ?_ | refine zA ?_ | refine zS ?_ | refine zU ?_ | refine zV ?_ | refine zF ?_ | refine zX ?_ | refine yaf ?_))
        (repeat (first | with_reducible refine yad ?_ | with_reducible refine yab ?_ | refine yac ?_ | refine yae ?_ | refine yaa ?_))
        refine yaq rfl (fun h9 => absurd h9 (by simp [hc])) (fun _ => ?_)
        (repeat (first | with_reducible refine yad ?_ | with_reducible refine yab ?_ | refine yac ?_ | refine yae ?_ | refine yaa ?_)); refine yah (lf := lfT) rfl ?_
        (repeat (first | refine zI ?_ | refine zL ?_ | refine zC ?_ | refine zK ?_ | refine zB ?_ | refine zA ?_ | refine zS ?_ | refine zU ?_ | refine zV ?_ | refine zF ?_ | refine zX ?_ | refine yaf ?_ | refine yal rfl rfl (aggregateOp_con (pwT s t).w) rfl rfl ?_))
        (repeat (first | with_reducible refine yad ?_ | with_reducible refine yab ?_ | refine yac ?_ | refine yae ?_ | refine yaa ?_)); refine yah (lf := lfT) rfl ?_
        (repeat (first | refine zI ?_ | refine zL ?_ | refine zC ?_ | refine zK ?_ | refine zB ?_ | refine zA ?_ | refine zS ?_ | refine zU ?_ | refine zV ?_ | refine zF ?_ | refine zX ?_ | refine yaf ?_))
        (repeat (first | with_reducible refine yad ?_ | with_reducible refine yab ?_ | refine yac ?_ | refine yae ?_ | refine yaa ?_))
        refine yaq rfl (fun _ => ?_) (fun h9 => absurd h9 (by simp [ha]))
        (repeat (first | with_reducible refine yad ?_ | with_reducible refine yab ?_ | refine yac ?_ | refine yae ?_ | refine yaa ?_)); refine yah (lf := lfT) rfl ?_
        (repeat (first | refine zI ?_ | refine zL ?_ | refine zC ?_ | refine zK ?_ | refine zB ?_ | refine zA ?_ | refine zS ?_ | refine zU ?_ | refine zV ?_ | refine zF ?_ | refine zX ?_ | refine yaf ?_ | refine ybx 1001 (yfo t _) rfl rfl rfl rfl rfl rfl rfl rfl rfl rfl ?_))
        (repeat (first | with_reducible refine yad ?_ | with_reducible refine yab ?_ | refine yac ?_ | refine yae ?_ | refine yaa ?_)); refine yav (lf := lfT) 1 rfl rfl rfl ?_
        (repeat (first | refine zI ?_ | refine zL ?_ | refine zC ?_ | refine zK ?_ | refine zB ?_ | refine zA ?_ | refine zS ?_ | refine zU ?_ | refine zV ?_ | refine zF ?_ | refine zX ?_ | refine yaf ?_))
        exact ⟨rfl, yiv 1001 (expect_no gr (want_no (by simp) hne)) rfl rfl rfl rfl (ycf hr (by simp))⟩
    rw [if_neg (by simp [ha])] at hp
    simp only [Option.some.injEq] at hp
    cases res with
    | ok x rest =>
      obtain ⟨t1, r1, i, hts, hw, hi, rfl, rfl⟩ := var_ok (s := s) (ts := t :: r) hp
      simp only [List.cons.injEq] at hts
      obtain ⟨rfl, rfl⟩ := hts
      refine ybl Tryz.func109 rfl rfl Tryz.ntmps109 Tryz.results109 rfl rfl ?_
      (repeat (first | with_reducible refine yad ?_ | with_reducible refine yab ?_ | refine yac ?_ | refine yae ?_ | refine yaa ?_)); refine yah (lf := lfT) rfl ?_
      (repeat (first | refine zI ?_ | refine zL ?_ | refine zC ?_ | refine zK ?_ | refine zB ?_ | refine zA ?_ | refine zS ?_ | refine zU ?_ | refine zV ?_ | refine zF ?_ | refine zX ?_ | refine yaf ?_))
      (repeat (first | with_reducible refine yad ?_ | with_reducible refine yab ?_ | refine yac ?_ | refine yae ?_ | refine yaa ?_)); refine yah (lf := lfT) rfl ?_
      (repeat (first | refine zI ?_ | refine zL ?_ | refine zC ?_ | refine zK ?_ | refine zB ?_ | refine zA ?_ | refine zS ?_ | refine zU ?_ | refine zV ?_ | refine zF ?_ | refine zX ?_ | refine yaf ?_ | refine ybx 1001 (yci h) rfl rfl rfl rfl rfl rfl rfl rfl rfl rfl ?_))
      (repeat (first | with_reducible refine yad ?_ | with_reducible refine yab ?_ | refine yac ?_ | refine yae ?_ | refine yaa ?_)); refine yah (lf := lfT) rfl ?_
      (repeat (first | refine zI ?_ | refine zL ?_ | refine zC ?_ | refine zK ?_ | refine zB ?_ | refine zA ?_ | refine zS ?_ | refine zU ?_ | refine zV ?_ | refine zF ?_ | refine zX ?_ | refine yaf ?_ | refine ybx 1001 (ydj h) rfl rfl rfl rfl rfl rfl rfl rfl rfl rfl ?_))
      (repeat (first | with_reducible refine yad ?_ | with_reducible refine yab ?_ | refine yac ?_ | refine yae ?_ | refine yaa ?_))
      refine yaq rfl (fun h9 => absurd h9 (by simp [yhx]; omega)) (fun _ => ?_)
      (repeat (first | with_reducible refine yad ?_ | with_reducible refine yab ?_ | refine yac ?_ | refine yae ?_ | refine yaa ?_)); refine yah (lf := lfT) rfl ?_
      (repeat (first | refine zI ?_ | refine zL ?_ | refine zC ?_ | refine zK ?_ | refine zB ?_ | refine zA ?_ | refine zS ?_ | refine zU ?_ | refine zV ?_ | refine zF ?_ | refine zX ?_ | refine yaf ?_ | refine ybx 1001 (ybo h (w := [40]) hp1) rfl rfl rfl rfl rfl rfl rfl rfl rfl rfl ?_))
      (repeat (first | with_reducible refine yad ?_ | with_reducible refine yab ?_ | refine yac ?_ | refine yae ?_ | refine yaa ?_))
      refine zE ?_
      (repeat (first | with_reducible refine yad ?_ | with_reducible refine yab ?_ | refine yac ?_ | refine yae ?_ | refine yaa ?_)); refine yah (lf := lfT) rfl ?_
      (repeat (first | refine zI ?_ | refine zL ?_ | refine zC ?_ | refine zK ?_ | refine zB ?_ | refine zA ?_ | refine zS ?_ | refine zU ?_ | refine zV ?_ | refine zF ?_ | refine zX ?_ | refine yaf ?_ | refine ybx 1001 (ybo h (w := [113]) hp2) rfl rfl rfl rfl rfl rfl rfl rfl rfl rfl ?_))
      (repeat (first | with_reducible refine yad ?_ | with_reducible refine yab ?_ | refine yac ?_ | refine yae ?_ | refine yaa ?_))
      refine zE ?_
      (repeat (first | with_reducible refine yad ?_ | with_reducible refine yab ?_ | refine yac ?_ | refine yae ?_ | refine yaa ?_)); refine yah (lf := lfT) rfl ?_
      (repeat (first | refine zI ?_ | refine zL ?_ | refine zC ?_ | refine zK ?_ | refine zB ?_ | refine zA ?_ | refine zS ?_ | refine zU ?_ | refine zV ?_ | refine zF ?_ | refine zX ?_ | refine yaf ?_ | refine yal rfl rfl (ycy (pwT s t).w) rfl rfl ?_))
      (repeat (first | with_reducible refine yad ?_ | with_reducible refine yab ?_ | refine yac ?_ | refine yae ?_ | refine yaa ?_)); refine yah (lf := lfT) rfl ?_
      (repeat (first | refine zI ?_ | refine zL ?_ | refine zC ?_ | refine zK ?_ | refine zB ?_ | refine zA ?_ | refine zS ?_ | refine zU ?_ | refine zV ?_ | refine zF ?_ | refine zX ?_ | refine yaf ?_))
      (repeat (first | with_reducible refine yad ?_ | with_reducible refine yab ?_ | refine yac ?_ | refine yae ?_ | refine yaa ?_))
      refine yaq rfl (fun h9 => absurd h9 (by simp [hc])) (fun _ => ?_)
      (repeat (first | with_reducible refine yad ?_ | with_reducible refine yab ?_ | refine yac ?_ | refine yae ?_ | refine yaa ?_)); refine yah (lf := lfT) rfl ?_
      (repeat (first | refine zI ?_ | refine zL ?_ | refine zC ?_ | refine zK ?_ | refine zB ?_ | refine zA ?_ | refine zS ?_ | refine zU ?_ | refine zV ?_ | refine zF ?_ | refine zX ?_ | refine yaf ?_ | refine yal rfl rfl (aggregateOp_con (pwT s t).w) rfl rfl ?_))
      (repeat (first | with_reducible refine yad ?_ | with_reducible refine yab ?_ | refine yac ?_ | refine yae ?_ | refine yaa ?_)); refine yah (lf := lfT) rfl ?_
      (repeat (first | refine zI ?_ | refine zL ?_ | refine zC ?_ | refine zK ?_ | refine zB ?_ | refine zA ?_ | refine zS ?_ | refine zU ?_ | refine zV ?_ | refine zF ?_ | refine zX ?_ | refine yaf ?_))
      (repeat (first | with_reducible refine yad ?_ | with_reducible refine yab ?_ | refine yac ?_ | refine yae ?_ | refine yaa ?_))
      refine yaq rfl (fun h9 => absurd h9 (by simp [ha])) (fun _ => ?_)
      (repeat (first | refine zI ?_ | refine zL ?_ | refine zC ?_ | refine yaf ?_ | refine yae ?_ | refine zR ?_ | refine zD ?_ | refine zK ?_ | refine zB ?_ | refine zA ?_ | refine zS ?_ | refine zU ?_ | refine zV ?_ | refine zF ?_ | with_reducible refine yab ?_ | with_reducible refine yad ?_ | refine yaa ?_ | refine yac ?_ | refine yag ?_ | refine zT ?_ | refine zE ?_ | refine zX ?_ | refine ybx 1001 (variable_ok h hl hs hw hi) rfl rfl rfl rfl rfl rfl rfl rfl rfl rfl ?_ | refine yal rfl rfl (leaf_con 5 (i : Int)) rfl rfl ?_))
      refine yau ?_
      exact ydb hr (by simp) rfl rfl rfl
    | bad c rest =>
      have hrest := var_rest hp
      refine ybl Tryz.func109 rfl rfl Tryz.ntmps109 Tryz.results109 rfl rfl ?_
      (repeat (first | with_reducible refine yad ?_ | with_reducible refine yab ?_ | refine yac ?_ | refine yae ?_ | refine yaa ?_)); refine yah (lf := lfT) rfl ?_
      (repeat (first | refine zI ?_ | refine zL ?_ | refine zC ?_ | refine zK ?_ | refine zB ?_ | refine zA ?_ | refine zS ?_ | refine zU ?_ | refine zV ?_ | refine zF ?_ | refine zX ?_ | refine yaf ?_))
      (repeat (first | with_reducible refine yad ?_ | with_reducible refine yab ?_ | refine yac ?_ | refine yae ?_ | refine yaa ?_)); refine yah (lf := lfT) rfl ?_
      (repeat (first | refine zI ?_ | refine zL ?_ | refine zC ?_ | refine zK ?_ | refine zB ?_ | refine zA ?_ | refine zS ?_ | refine zU ?_ | refine zV ?_ | refine zF ?_ | refine zX ?_ | refine yaf ?_ | refine ybx 1001 (yci h) rfl rfl rfl rfl rfl rfl rfl rfl rfl rfl ?_))
      (repeat (first | with_reducible refine yad ?_ | with_reducible refine yab ?_ | refine yac ?_ | refine yae ?_ | refine yaa ?_)); refine yah (lf := lfT) rfl ?_
      (repeat (first | refine zI ?_ | refine zL ?_ | refine zC ?_ | refine zK ?_ | refine zB ?_ | refine zA ?_ | refine zS ?_ | refine zU ?_ | refine zV ?_ | refine zF ?_ | refine zX ?_ | refine yaf ?_ | refine ybx 1001 (ydj h) rfl rfl rfl rfl rfl rfl rfl rfl rfl rfl ?_))
      (repeat (first | with_reducible refine yad ?_ | with_reducible refine yab ?_ | refine yac ?_ | refine yae ?_ | refine yaa ?_))
      refine yaq rfl (fun h9 => absurd h9 (by simp [yhx]; omega)) (fun _ => ?_)
      (repeat (first | with_reducible refine yad ?_ | with_reducible refine yab ?_ | refine yac ?_ | refine yae ?_ | refine yaa ?_)); refine yah (lf := lfT) rfl ?_
      (repeat (first | refine zI ?_ | refine zL ?_ | refine zC ?_ | refine zK ?_ | refine zB ?_ | refine zA ?_ | refine zS ?_ | refine zU ?_ | refine zV ?_ | refine zF ?_ | refine zX ?_ | refine yaf ?_ | refine ybx 1001 (ybo h (w := [40]) hp1) rfl rfl rfl rfl rfl rfl rfl rfl rfl rfl ?_))
      (repeat (first | with_reducible refine yad ?_ | with_reducible refine yab ?_ | refine yac ?_ | refine yae ?_ | refine yaa ?_))
      refine zE ?_
      (repeat (first | with_reducible refine yad ?_ | with_reducible refine yab ?_ | refine yac ?_ | refine yae ?_ | refine yaa ?_)); refine yah (lf := lfT) rfl ?_
      (repeat (first | refine zI ?_ | refine zL ?_ | refine zC ?_ | refine zK ?_ | refine zB ?_ | refine zA ?_ | refine zS ?_ | refine zU ?_ | refine zV ?_ | refine zF ?_ | refine zX ?_ | refine yaf ?_ | refine ybx 1001 (ybo h (w := [113]) hp2) rfl rfl rfl rfl rfl rfl rfl rfl rfl rfl ?_))
      (repeat (first | with_reducible refine yad ?_ | with_reducible refine yab ?_ | refine yac ?_ | refine yae ?_ | refine yaa ?_))
      refine zE ?_
      (repeat (first | with_reducible refine yad ?_ | with_reducible refine yab ?_ | refine yac ?_ | refine yae ?_ | refine yaa ?_)); refine yah (lf := lfT) rfl ?_
      (repeat (first | refine zI ?_ | refine zL ?_ | refine zC ?_ | refine zK ?_ | refine zB ?_ | refine zA ?_ | refine zS ?_ | refine zU ?_ | refine zV ?_ | refine zF ?_ | refine zX ?_ | refine yaf ?_ | refine yal rfl rfl (ycy (pwT s t).w) rfl rfl ?_))
      (repeat (first | with_reducible refine yad ?_ | with_reducible refine yab ?_ | refine yac ?_ | refine yae ?_ | refine yaa ?_)); refine yah (lf := lfT) rfl ?_
      (repeat (first | refine zI ?_ | refine zL ?_ | refine zC ?_ | refine zK ?_ | refine zB ?_ | refine zA ?_ | refine zS ?_ | refine zU ?_ | refine zV ?_ | refine zF ?_ | refine zX ?_ | refine yaf ?_))
      (repeat (first | with_reducible refine yad ?_ | with_reducible refine yab ?_ | refine yac ?_ | refine yae ?_ | refine yaa ?_))
      refine yaq rfl (fun h9 => absurd h9 (by simp [hc])) (fun _ => ?_)
      (repeat (first | with_reducible refine yad ?_ | with_reducible refine yab ?_ | refine yac ?_ | refine yae ?_ | refine yaa ?_)); refine yah (lf := lfT) rfl ?_
      (repeat (first | refine zI ?_ | refine zL ?_ | refine zC ?_ | refine zK ?_ | refine zB ?_ | refine zA ?_ | refine zS ?_ | refine zU ?_ | refine zV ?_ | refine zF ?_ | refine zX ?_ | refine yaf ?_ | refine yal rfl rfl (aggregateOp_con (pwT s t).w) rfl rfl ?_))
      (repeat (first | with_reducible refine yad ?_ | with_reducible refine yab ?_ | refine yac ?_ | refine yae ?_ | refine yaa ?_)); refine yah (lf := lfT) rfl ?_
      (repeat (first | refine zI ?_ | refine zL ?_ | refine zC ?_ | refine zK ?_ | refine zB ?_ | refine zA ?_ | refine zS ?_ | refine zU ?_ | refine zV ?_ | refine zF ?_ | refine zX ?_ | refine yaf ?_))
      (repeat (first | with_reducible refine yad ?_ | with_reducible refine yab ?_ | refine yac ?_ | refine yae ?_ | refine yaa ?_))
      refine yaq rfl (fun h9 => absurd h9 (by simp [ha])) (fun _ => ?_)
      (repeat (first | with_reducible refine yad ?_ | with_reducible refine yab ?_ | refine yac ?_ | refine yae ?_ | refine yaa ?_)); refine yav (lf := lfT) 1 rfl rfl rfl ?_
      (repeat (first | refine zI ?_ | refine zL ?_ | refine zC ?_ | refine zK ?_ | refine zB ?_ | refine zA ?_ | refine zS ?_ | refine zU ?_ | refine zV ?_ | refine zF ?_ | refine zX ?_ | refine yaf ?_))
      exact ⟨rfl, yiv 1001 (variable_bad (ts := t :: r) h hl hs hp) rfl rfl rfl rfl (ycf (List.suffix_refl _) (by rw [hrest]; simp))⟩
theorem binary_step {f : Nat} (ih : ∀ g, g ≤ f → IHp g s names us) {l : Nat} (h1l : 1 ≤ l) (hl6 : l ≤ 6) (h : yfg s ts) (hlen : ts.length ≤ 100000) {res : Res} (hp : PP nmW names (f + 1) (.bin l) (ts.map (pwT s)) = some res) : yif 45 [i64 l] s names us ts res := by
  rw [PP] at hp
  by_cases h6 : 6 ≤ l
  · obtain rfl : l = 6 := by omega
    rw [if_pos h6] at hp
    have ihu := (ih f (Nat.le_refl _)).unary _ _ h hlen hp
    have sp1 := yfm _ _ _ _ hp
    cases res with
    | ok x r =>
      obtain ⟨ts1, hs1, rfl⟩ := ycm sp1.1
      have c1 := yiq ihu hs1
      refine ybl Tryz.func45 rfl rfl Tryz.ntmps45 Tryz.results45 rfl rfl ?_
      (repeat (first | refine zI ?_ | refine zL ?_ | refine zC ?_ | refine yaf ?_ | refine yae ?_ | refine zR ?_ | refine zD ?_ | refine zK ?_ | refine zB ?_ | refine zA ?_ | refine zS ?_ | refine zU ?_ | refine zV ?_ | refine zF ?_ | with_reducible refine yab ?_ | with_reducible refine yad ?_ | refine yaa ?_ | refine yac ?_ | refine yag ?_ | refine zT ?_ | refine zE ?_ | refine zX ?_ | refine ybx 1001 (c1) rfl rfl rfl rfl rfl rfl rfl rfl rfl rfl ?_))
      refine yau ?_
      exact ydb hs1 (by simp) rfl rfl rfl
    | bad c r =>
      obtain ⟨ts1, hs1, rfl⟩ := ycm sp1.1
      have c1 := yhe ihu hs1
      refine ybl Tryz.func45 rfl rfl Tryz.ntmps45 Tryz.results45 rfl rfl ?_
      (repeat (first | with_reducible refine yad ?_ | with_reducible refine yab ?_ | refine yac ?_ | refine yae ?_ | refine yaa ?_)); refine yah (lf := lfT) rfl ?_
      (repeat (first | refine zI ?_ | refine zL ?_ | refine zC ?_ | refine zK ?_ | refine zB ?_ | refine zA ?_ | refine zS ?_ | refine zU ?_ | refine zV ?_ | refine zF ?_ | refine zX ?_ | refine yaf ?_))
      (repeat (first | with_reducible refine yad ?_ | with_reducible refine yab ?_ | refine yac ?_ | refine yae ?_ | refine yaa ?_)); refine yah (lf := lfT) rfl ?_
      (repeat (first | refine zI ?_ | refine zL ?_ | refine zC ?_ | refine zK ?_ | refine zB ?_ | refine zA ?_ | refine zS ?_ | refine zU ?_ | refine zV ?_ | refine zF ?_ | refine zX ?_ | refine yaf ?_))
      (repeat (first | with_reducible refine yad ?_ | with_reducible refine yab ?_ | refine yac ?_ | refine yae ?_ | refine yaa ?_))
      refine zT ?_
      (repeat (first | with_reducible refine yad ?_ | with_reducible refine yab ?_ | refine yac ?_ | refine yae ?_ | refine yaa ?_)); refine yav (lf := lfT) 1 rfl rfl rfl ?_
      (repeat (first | refine zI ?_ | refine zL ?_ | refine zC ?_ | refine zK ?_ | refine zB ?_ | refine zA ?_ | refine zS ?_ | refine zU ?_ | refine zV ?_ | refine zF ?_ | refine zX ?_ | refine yaf ?_))
      exact ⟨rfl, yiv 1001 c1 rfl rfl rfl rfl (ycf hs1 (by simp))⟩
  rw [if_neg h6] at hp
  rcases ycd hp with ⟨left0, r0, q1, q2⟩ | ⟨c, r0, q1, rfl⟩
  · have sp0 := yfm _ _ _ _ q1
    obtain ⟨ts0, hs0, rfl⟩ := ycm sp0.1
    have c0 := yiq ((ih f (Nat.le_refl _)).bin (l + 1) (by omega) (by omega) _ _ h hlen q1) hs0
    have b0 := sp0.2.1
    simp only [List.length_map, NT.had] at b0
    refine ybl Tryz.func45 rfl rfl Tryz.ntmps45 Tryz.results45 rfl rfl ?_
    (repeat (first | with_reducible refine yad ?_ | with_reducible refine yab ?_ | refine yac ?_ | refine yae ?_ | refine yaa ?_)); refine yah (lf := lfT) rfl ?_
    (repeat (first | refine zI ?_ | refine zL ?_ | refine zC ?_ | refine zK ?_ | refine zB ?_ | refine zA ?_ | refine zS ?_ | refine zU ?_ | refine zV ?_ | refine zF ?_ | refine zX ?_ | refine yaf ?_))
    (repeat (first | with_reducible refine yad ?_ | with_reducible refine yab ?_ | refine yac ?_ | refine yae ?_ | refine yaa ?_)); refine yah (lf := lfT) rfl ?_
    (repeat (first | refine zI ?_ | refine zL ?_ | refine zC ?_ | refine zK ?_ | refine zB ?_ | refine zA ?_ | refine zS ?_ | refine zU ?_ | refine zV ?_ | refine zF ?_ | refine zX ?_ | refine yaf ?_))
    (repeat (first | with_reducible refine yad ?_ | with_reducible refine yab ?_ | refine yac ?_ | refine yae ?_ | refine yaa ?_))
    refine yaq rfl (fun h9 => absurd h9 (by simp; omega)) (fun _ => ?_)
    (repeat (first | with_reducible refine yad ?_ | with_reducible refine yab ?_ | refine yac ?_ | refine yae ?_ | refine yaa ?_)); refine yah (lf := lfT) rfl ?_
    (repeat (first | refine zI ?_ | refine zL ?_ | refine zC ?_ | refine zK ?_ | refine zB ?_ | refine zA ?_ | refine zS ?_ | refine zU ?_ | refine zV ?_ | refine zF ?_ | refine zX ?_ | refine yaf ?_ | refine ybx 1001 (c0) rfl rfl rfl rfl rfl rfl rfl rfl rfl rfl ?_))
    (repeat (first | with_reducible refine yad ?_ | with_reducible refine yab ?_ | refine yac ?_ | refine yae ?_ | refine yaa ?_))
    refine yjj (α := Nat × List Tm × List Tok) (fun q => [(0, .lp 1001 0), (1, i64 l), (5, ybc q.2.1)]) (fun q => [(1001, some (rdO s q.2.2 names us))]) (fun q => q.1) (fun q => q.1 ≤ f ∧ PP nmW names q.1 (.tail l q.2.1) (q.2.2.map (pwT s)) = some res ∧ q.2.2 <:+ ts ∧ q.2.1.length + q.2.2.length ≤ ts.length) (f, left0, ts0) ⟨Nat.le_refl _, q2, hs0, by simpa using b0⟩ (by (repeat (first | exact yca | refine ybm rfl ?_))) (yak rfl yar) ?_
    rintro ⟨g, left, ts1⟩ ⟨hg, ht, hs1, hb⟩
    simp only at hg ht hs1 hb
    have g1 := h.suf hs1
    obtain ⟨g, rfl⟩ : ∃ k, g = k + 1 := by
      cases g with
      | zero => cases ht
      | succ k => exact ⟨k, rfl⟩
    rw [PP] at ht
    (repeat (first | with_reducible refine yad ?_ | with_reducible refine yab ?_ | refine yac ?_ | refine yae ?_ | refine yaa ?_)); refine yah (lf := lfT) rfl ?_
    (repeat (first | refine zI ?_ | refine zL ?_ | refine zC ?_ | refine zK ?_ | refine zB ?_ | refine zA ?_ | refine zS ?_ | refine zU ?_ | refine zV ?_ | refine zF ?_ | refine zX ?_ | refine yaf ?_ | refine ybx 1001 (yci g1) rfl rfl rfl rfl rfl rfl rfl rfl rfl rfl ?_ | refine yal rfl rfl (binaryOp_con (ybh (ts1.map (pwT s)))) rfl rfl ?_))
    (repeat (first | with_reducible refine yad ?_ | with_reducible refine yab ?_ | refine yac ?_ | refine yae ?_ | refine yaa ?_)); refine yah (lf := lfT) rfl ?_
    (repeat (first | refine zI ?_ | refine zL ?_ | refine zC ?_ | refine zK ?_ | refine zB ?_ | refine zA ?_ | refine zS ?_ | refine zU ?_ | refine zV ?_ | refine zF ?_ | refine zX ?_ | refine yaf ?_))
    by_cases hd : ygo (ybh (ts1.map (pwT s))) = 0 ∨ ydo (ygo (ybh (ts1.map (pwT s)))) ≠ l
    · rw [if_pos hd] at ht
      simp only [Option.some.injEq] at ht
      subst ht
      refine ych 20 rfl (fun h2 => ?_) (fun h2 => ?_)
      · (repeat (first | refine zI ?_ | refine zL ?_ | refine zC ?_ | refine zK ?_ | refine zB ?_ | refine zA ?_ | refine zS ?_ | refine zU ?_ | refine zV ?_ | refine zF ?_ | refine zX ?_ | refine yaf ?_))
        (repeat (first | with_reducible refine yad ?_ | with_reducible refine yab ?_ | refine yac ?_ | refine yae ?_ | refine yaa ?_))
        refine zT ?_
        (repeat (first | refine zI ?_ | refine zL ?_ | refine zC ?_ | refine yaf ?_ | refine yae ?_ | refine zR ?_ | refine zD ?_ | refine zK ?_ | refine zB ?_ | refine zA ?_ | refine zS ?_ | refine zU ?_ | refine zV ?_ | refine zF ?_ | with_reducible refine yab ?_ | with_reducible refine yad ?_ | refine yaa ?_ | refine yac ?_ | refine yag ?_ | refine zT ?_ | refine zE ?_ | refine zX ?_))
        refine yau ?_
        exact ydb hs1 (by simp) rfl rfl rfl
      · (repeat (first | refine zI ?_ | refine zL ?_ | refine zC ?_ | refine zK ?_ | refine zB ?_ | refine zA ?_ | refine zS ?_ | refine zU ?_ | refine zV ?_ | refine zF ?_ | refine zX ?_ | refine yaf ?_ | refine yal rfl rfl (ycr (ygo (ybh (_)))) rfl rfl ?_))
        have h2 : ygo (ybh (ts1.map (pwT s))) ≠ 0 := by simpa using h2
        have hd2 : ydo (ygo (ybh (ts1.map (pwT s)))) ≠ l := by rcases hd with hd | hd; exact absurd hd h2; exact hd
        (repeat (first | with_reducible refine yad ?_ | with_reducible refine yab ?_ | refine yac ?_ | refine yae ?_ | refine yaa ?_))
        refine yaq rfl (fun _ => ?_) (fun h9 => absurd h9 (by simp; omega))
        (repeat (first | refine zI ?_ | refine zL ?_ | refine zC ?_ | refine yaf ?_ | refine yae ?_ | refine zR ?_ | refine zD ?_ | refine zK ?_ | refine zB ?_ | refine zA ?_ | refine zS ?_ | refine zU ?_ | refine zV ?_ | refine zF ?_ | with_reducible refine yab ?_ | with_reducible refine yad ?_ | refine yaa ?_ | refine yac ?_ | refine yag ?_ | refine zT ?_ | refine zE ?_ | refine zX ?_))
        refine yau ?_
        exact ydb hs1 (by simp) rfl rfl rfl
    · rw [if_neg hd, tail_map] at ht
      obtain ⟨hd1, hd2⟩ := not_or.1 hd
      have hd2 : ydo (ygo (ybh (ts1.map (pwT s)))) = l := Classical.not_not.1 hd2
      obtain ⟨t, r, rfl⟩ : ∃ t r, ts1 = t :: r := by
        cases ts1 with
        | nil => exact absurd rfl hd1
        | cons t r => exact ⟨t, r, rfl⟩
      have hsr : r <:+ ts := (List.suffix_cons t r).trans hs1
      have gr := h.suf hsr
      have lr := suf_len hsr
      simp only [List.length_cons] at hb
      refine ych 20 rfl (fun h2 => ?_) (fun h2 => ?_)
      · exact absurd h2 (by simpa using hd1)
      (repeat (first | refine zI ?_ | refine zL ?_ | refine zC ?_ | refine zK ?_ | refine zB ?_ | refine zA ?_ | refine zS ?_ | refine zU ?_ | refine zV ?_ | refine zF ?_ | refine zX ?_ | refine yaf ?_ | refine yal rfl rfl (ycr (ygo (ybh (_)))) rfl rfl ?_))
      (repeat (first | with_reducible refine yad ?_ | with_reducible refine yab ?_ | refine yac ?_ | refine yae ?_ | refine yaa ?_))
      refine yaq rfl (fun h9 => absurd h9 (by rw [hd2]; simp)) (fun _ => ?_)
      (repeat (first | with_reducible refine yad ?_ | with_reducible refine yab ?_ | refine yac ?_ | refine yae ?_ | refine yaa ?_)); refine yah (lf := lfT) rfl ?_
      (repeat (first | refine zI ?_ | refine zL ?_ | refine zC ?_ | refine zK ?_ | refine zB ?_ | refine zA ?_ | refine zS ?_ | refine zU ?_ | refine zV ?_ | refine zF ?_ | refine zX ?_ | refine yaf ?_ | refine ybx 1001 (yfo t r) rfl rfl rfl rfl rfl rfl rfl rfl rfl rfl ?_))
      rcases ycd ht with ⟨right, r2, q3, q4⟩ | ⟨c, r2, q3, rfl⟩
      · have sp2 := yfm _ _ _ _ q3
        obtain ⟨ts2, hs2, rfl⟩ := ycm sp2.1
        have c2 := yiq ((ih g (by omega)).bin (l + 1) (by omega) (by omega) _ _ gr (by omega) q3) hs2
        have b2 := sp2.2.1
        simp only [List.length_map, NT.had, List.tail_cons] at b2
        have hb2 : [left, right].flatten.length ≤ 1000000 := by
          simp only [List.flatten_cons, List.flatten_nil, List.length_append, List.length_nil]
          omega
        have ef : (ygo (ybh ((t :: r).map (pwT s))), (0 : Int)) :: [left, right].flatten = (ygo (ybh ((t :: r).map (pwT s))), 0) :: (left ++ right) := by simp
        (repeat (first | with_reducible refine yad ?_ | with_reducible refine yab ?_ | refine yac ?_ | refine yae ?_ | refine yaa ?_)); refine yah (lf := lfT) rfl ?_
        (repeat (first | refine zI ?_ | refine zL ?_ | refine zC ?_ | refine zK ?_ | refine zB ?_ | refine zA ?_ | refine zS ?_ | refine zU ?_ | refine zV ?_ | refine zF ?_ | refine zX ?_ | refine yaf ?_ | refine ybx 1001 (c2) rfl rfl rfl rfl rfl rfl rfl rfl rfl rfl ?_ | refine yal rfl rfl (operation_con (ygo (ybh ((t :: r).map (pwT s)))) [left, right] (by simp) hb2) rfl rfl ?_))
        rw [ef]
        (repeat (first | with_reducible refine yad ?_ | with_reducible refine yab ?_ | refine yac ?_ | refine yae ?_ | refine yaa ?_)); refine yah (lf := lfT) rfl ?_
        (repeat (first | refine zI ?_ | refine zL ?_ | refine zC ?_ | refine zK ?_ | refine zB ?_ | refine zA ?_ | refine zS ?_ | refine zU ?_ | refine zV ?_ | refine zF ?_ | refine zX ?_ | refine yaf ?_))
        (repeat (first | with_reducible refine yad ?_ | with_reducible refine yab ?_ | refine yac ?_ | refine yae ?_ | refine yaa ?_))
        by_cases h3 : l = 3
        · rw [if_pos h3] at q4
          simp only [Option.some.injEq] at q4
          subst q4
          refine yaq rfl (fun _ => ?_) (fun h9 => absurd h9 (by simp; omega))
          (repeat (first | refine zI ?_ | refine zL ?_ | refine zC ?_ | refine yaf ?_ | refine yae ?_ | refine zR ?_ | refine zD ?_ | refine zK ?_ | refine zB ?_ | refine zA ?_ | refine zS ?_ | refine zU ?_ | refine zV ?_ | refine zF ?_ | with_reducible refine yab ?_ | with_reducible refine yad ?_ | refine yaa ?_ | refine yac ?_ | refine yag ?_ | refine zT ?_ | refine zE ?_ | refine zX ?_))
          refine yau ?_
          exact ydb (hs2.trans hsr) (by simp) rfl rfl rfl
        · rw [if_neg h3] at q4
          refine yaq rfl (fun h9 => absurd h9 (by simp; omega)) (fun _ => ?_)
          (repeat (first | with_reducible refine yad ?_ | with_reducible refine yab ?_ | refine yac ?_ | refine yae ?_ | refine yaa ?_))
          exact rnd (g, (ygo (ybh ((t :: r).map (pwT s))), 0) :: (left ++ right), ts2) ⟨by simp only; omega, q4, hs2.trans hsr, by simp only [List.length_cons, List.length_append]; omega⟩ (by simp only; omega) (by (repeat (first | exact yca | refine ybm rfl ?_))) (yak rfl yar)
      · have sp2 := yfm _ _ _ _ q3
        obtain ⟨ts2, hs2, rfl⟩ := ycm sp2.1
        have c2 := yhe ((ih g (by omega)).bin (l + 1) (by omega) (by omega) _ _ gr (by omega) q3) hs2
        (repeat (first | with_reducible refine yad ?_ | with_reducible refine yab ?_ | refine yac ?_ | refine yae ?_ | refine yaa ?_)); refine yav (lf := lfT) 5 rfl rfl rfl ?_
        (repeat (first | refine zI ?_ | refine zL ?_ | refine zC ?_ | refine zK ?_ | refine zB ?_ | refine zA ?_ | refine zS ?_ | refine zU ?_ | refine zV ?_ | refine zF ?_ | refine zX ?_ | refine yaf ?_))
        exact ⟨rfl, yiv 1001 c2 rfl rfl rfl rfl (ycf (hs2.trans hsr) (by simp))⟩
  · have sp0 := yfm _ _ _ _ q1
    obtain ⟨ts0, hs0, rfl⟩ := ycm sp0.1
    have c0 := yhe ((ih f (Nat.le_refl _)).bin (l + 1) (by omega) (by omega) _ _ h hlen q1) hs0
    refine ybl Tryz.func45 rfl rfl Tryz.ntmps45 Tryz.results45 rfl rfl ?_
    (repeat (first | with_reducible refine yad ?_ | with_reducible refine yab ?_ | refine yac ?_ | refine yae ?_ | refine yaa ?_)); refine yah (lf := lfT) rfl ?_
    (repeat (first | refine zI ?_ | refine zL ?_ | refine zC ?_ | refine zK ?_ | refine zB ?_ | refine zA ?_ | refine zS ?_ | refine zU ?_ | refine zV ?_ | refine zF ?_ | refine zX ?_ | refine yaf ?_))
    (repeat (first | with_reducible refine yad ?_ | with_reducible refine yab ?_ | refine yac ?_ | refine yae ?_ | refine yaa ?_)); refine yah (lf := lfT) rfl ?_
    (repeat (first | refine zI ?_ | refine zL ?_ | refine zC ?_ | refine zK ?_ | refine zB ?_ | refine zA ?_ | refine zS ?_ | refine zU ?_ | refine zV ?_ | refine zF ?_ | refine zX ?_ | refine yaf ?_))
    (repeat (first | with_reducible refine yad ?_ | with_reducible refine yab ?_ | refine yac ?_ | refine yae ?_ | refine yaa ?_))
    refine yaq rfl (fun h9 => absurd h9 (by simp; omega)) (fun _ => ?_)
    (repeat (first | with_reducible refine yad ?_ | with_reducible refine yab ?_ | refine yac ?_ | refine yae ?_ | refine yaa ?_)); refine yav (lf := lfT) 3 rfl rfl rfl ?_
    (repeat (first | refine zI ?_ | refine zL ?_ | refine zC ?_ | refine zK ?_ | refine zB ?_ | refine zA ?_ | refine zS ?_ | refine zU ?_ | refine zV ?_ | refine zF ?_ | refine zX ?_ | refine yaf ?_))
    exact ⟨rfl, yiv 1001 c0 rfl rfl rfl rfl (ycf hs0 (by simp))⟩
theorem parser_rd (hl : names.length ≤ 1000) (hs : s.size ≤ 1000000000) : ∀ (n f : Nat), f ≤ n → IHp f s names us
  | n, 0, _ => ⟨fun ts res _ _ h => (by cases h), fun l _ _ ts res _ _ h => (by cases h), fun ts res _ _ h => (by cases h), fun ts res _ _ h => (by cases h)⟩
  | 0, f + 1, h => by omega
  | n + 1, f + 1, h => by
    have ih : ∀ g, g ≤ f → IHp g s names us := fun g hg => parser_rd hl hs n g (by omega)
    have i0 := ih f (Nat.le_refl _)
    exact ⟨fun ts res h1 h2 h3 => choice_step i0 h1 h2 h3, fun l h4 h5 ts res h1 h2 h3 => binary_step ih h4 h5 h1 h2 h3, fun ts res h1 h2 h3 => unary_step i0 h1 h2 h3, fun ts res h1 h2 h3 => prim_step i0 hl hs h1 h2 h3⟩
end
end Go.Proofs.YtcpgpiabeimefaaGreatDoor
