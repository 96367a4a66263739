/- Part 17 of the texts under ExprParses,ExprIsStable,ExprReadsBack,ExprIgnoresBrackets,ExprFormats,ExprBracketsEverything: joined, with what it needs alone. -/
import Derived.Test.YtcpgpiabeimefaaGreatDoorP16
set_option linter.unusedVariables false
set_option maxRecDepth 100000
set_option maxHeartbeats 4000000
namespace Go.Proofs.YtcpgpiabeimefaaGreatDoor
open Go.RowKit
theorem rname_con (w : Bs) (hw : w.length ≤ 9223372036854775807) : Con Tryz.prog 53 [yey (ba w)] (boolA (nmW w)) :=
  yep ⟨_, Tryz.func53, rfl, rfl⟩ fun w0 us ok hok hr => by
    obtain ⟨u, rfl, h1⟩ := relAll1 hr
    cases h1
    refine (rname_any (ba w) w0 (by rw [ybb]; exact hw)).mono ?_
    rintro e w' ⟨rfl, rfl⟩
    exact ⟨rfl, Below.refl _ _⟩
theorem rindex_con (l : List Bs) (w : Bs) (hl : l.length ≤ 1000) : Con Tryz.prog 54 [ybj l, yey (ba w)] (i64 (match idxW l w with | some i => (i : Int) | none => -1)) := by
  refine ybw Tryz.func54 rfl rfl Tryz.ntmps54 Tryz.results54 rfl rfl ?_
  (repeat (first | refine zI ?_ | refine zL ?_ | refine zC ?_ | refine yag ?_ | refine yaf ?_ | refine zR ?_ | refine zD ?_ | refine zK ?_ | refine zB ?_ | refine zA ?_ | refine zS ?_ | refine zU ?_ | refine zV ?_ | refine zF ?_ | with_reducible refine yab ?_ | with_reducible refine yad ?_ | refine yaa ?_ | refine yac ?_ | refine yae ?_ | refine zT ?_ | refine zE ?_ | refine zX ?_))
  refine A_inv (α := Nat) (fun k => [(5, i64 (k : Int)), (1, yey (ba w)), (0, ybj l)]) (fun k => []) (fun k => l.length - k) (fun k => k ≤ l.length ∧ idxW l w = (idxW (l.drop k) w).map (· + k)) 0 ⟨by omega, by simp⟩ (by (repeat (first | exact ycd | refine ybn rfl ?_))) (yan) ?_
  rintro k ⟨hk, hinv⟩
  (repeat (first | refine zI ?_ | refine zL ?_ | refine zC ?_ | refine yag ?_ | refine yaf ?_ | refine zR ?_ | refine zD ?_ | refine zK ?_ | refine zB ?_ | refine zA ?_ | refine zS ?_ | refine zU ?_ | refine zV ?_ | refine zF ?_ | with_reducible refine yab ?_ | with_reducible refine yad ?_ | refine yaa ?_ | refine yac ?_ | refine yae ?_ | refine zT ?_ | refine zE ?_ | refine zX ?_))
  refine yam rfl (fun h2 => ?_) (fun h2 => ?_)
  · have h2 : k < l.length := by simpa using h2
    obtain ⟨x, hx⟩ := getN' h2
    (repeat (first | refine zI ?_ | refine zL ?_ | refine zC ?_ | refine yag ?_ | refine yaf ?_ | refine zR ?_ | refine zD ?_ | refine zK ?_ | refine zB ?_ | refine zA ?_ | refine zS ?_ | refine zU ?_ | refine zV ?_ | refine zF ?_ | with_reducible refine yab ?_ | with_reducible refine yad ?_ | refine yaa ?_ | refine yac ?_ | refine yae ?_ | refine zT ?_ | refine zE ?_ | refine zX ?_))
    refine yam rfl (fun h3 => ?_) (fun h3 => ?_)
    · have h3 : x = w := by simpa [yem] using h3
      (repeat (first | refine zI ?_ | refine zL ?_ | refine zC ?_ | refine yag ?_ | refine yaf ?_ | refine zR ?_ | refine zD ?_ | refine zK ?_ | refine zB ?_ | refine zA ?_ | refine zS ?_ | refine zU ?_ | refine zV ?_ | refine zF ?_ | with_reducible refine yab ?_ | with_reducible refine yad ?_ | refine yaa ?_ | refine yac ?_ | refine yae ?_ | refine zT ?_ | refine zE ?_ | refine zX ?_))
      refine yar ?_; refine ⟨_, rfl, ?_⟩
      exact frz_i64 (by rw [idx_here hinv hx h3])
    · have h3 : x ≠ w := by simpa [yem] using h3
      (repeat (first | refine zI ?_ | refine zL ?_ | refine zC ?_ | refine yag ?_ | refine yaf ?_ | refine zR ?_ | refine zD ?_ | refine zK ?_ | refine zB ?_ | refine zA ?_ | refine zS ?_ | refine zU ?_ | refine zV ?_ | refine zF ?_ | with_reducible refine yab ?_ | with_reducible refine yad ?_ | refine yaa ?_ | refine yac ?_ | refine yae ?_ | refine zT ?_ | refine zE ?_ | refine zX ?_))
      exact rnd (k + 1) ⟨by omega, idx_next hinv hx h3⟩ (by omega) (by (repeat (first | exact ycd | refine ybn rfl ?_))) yan
  · have h2 : l.length ≤ k := by simpa using h2
    (repeat (first | refine zI ?_ | refine zL ?_ | refine zC ?_ | refine yag ?_ | refine yaf ?_ | refine zR ?_ | refine zD ?_ | refine zK ?_ | refine zB ?_ | refine zA ?_ | refine zS ?_ | refine zU ?_ | refine zV ?_ | refine zF ?_ | with_reducible refine yab ?_ | with_reducible refine yad ?_ | refine yaa ?_ | refine yac ?_ | refine yae ?_ | refine zT ?_ | refine zE ?_ | refine zX ?_))
    refine yar ?_; refine ⟨_, rfl, ?_⟩
    exact frz_i64 (by rw [idx_end hinv h2])
theorem rgood_con (names : List Bs) (hl : names.length ≤ 1000) (hn : ∀ x ∈ names, x.length ≤ 1000) : Con Tryz.prog 27 [ybj names] (boolA (yeo nmW names)) := by
  refine ybw Tryz.func27 rfl rfl Tryz.ntmps27 Tryz.results27 rfl rfl ?_
  (repeat (first | refine zI ?_ | refine zL ?_ | refine zC ?_ | refine yag ?_ | refine yaf ?_ | refine zR ?_ | refine zD ?_ | refine zK ?_ | refine zB ?_ | refine zA ?_ | refine zS ?_ | refine zU ?_ | refine zV ?_ | refine zF ?_ | with_reducible refine yab ?_ | with_reducible refine yad ?_ | refine yaa ?_ | refine yac ?_ | refine yae ?_ | refine zT ?_ | refine zE ?_ | refine zX ?_))
  refine yam rfl (fun h1 => ?_) (fun h1 => ?_)
  · have h1 : 6 < names.length := by simp at h1; omega
    (repeat (first | refine zI ?_ | refine zL ?_ | refine zC ?_ | refine yag ?_ | refine yaf ?_ | refine zR ?_ | refine zD ?_ | refine zK ?_ | refine zB ?_ | refine zA ?_ | refine zS ?_ | refine zU ?_ | refine zV ?_ | refine zF ?_ | with_reducible refine yab ?_ | with_reducible refine yad ?_ | refine yaa ?_ | refine yac ?_ | refine yae ?_ | refine zT ?_ | refine zE ?_ | refine zX ?_))
    refine yar ?_; refine ⟨_, rfl, ?_⟩
    exact ybr (by simp [yeo, show ¬ names.length ≤ 6 by omega])
  have h1 : names.length ≤ 6 := by simp at h1; omega
  (repeat (first | refine zI ?_ | refine zL ?_ | refine zC ?_ | refine yag ?_ | refine yaf ?_ | refine zR ?_ | refine zD ?_ | refine zK ?_ | refine zB ?_ | refine zA ?_ | refine zS ?_ | refine zU ?_ | refine zV ?_ | refine zF ?_ | with_reducible refine yab ?_ | with_reducible refine yad ?_ | refine yaa ?_ | refine yac ?_ | refine yae ?_ | refine zT ?_ | refine zE ?_ | refine zX ?_))
  refine A_inv (α := Nat) (fun k => [(3, i64 (k : Int)), (0, ybj names)]) (fun k => []) (fun k => names.length - k) (fun k => k ≤ names.length ∧ (names.take k).all nmW = true ∧ (names.take k).Nodup) 0 ⟨by omega, by simp, by simp⟩ (by (repeat (first | exact ycd | refine ybn rfl ?_))) (yan) ?_
  rintro k ⟨hk, ha, hd⟩
  (repeat (first | refine zI ?_ | refine zL ?_ | refine zC ?_ | refine yag ?_ | refine yaf ?_ | refine zR ?_ | refine zD ?_ | refine zK ?_ | refine zB ?_ | refine zA ?_ | refine zS ?_ | refine zU ?_ | refine zV ?_ | refine zF ?_ | with_reducible refine yab ?_ | with_reducible refine yad ?_ | refine yaa ?_ | refine yac ?_ | refine yae ?_ | refine zT ?_ | refine zE ?_ | refine zX ?_))
  refine yam rfl (fun h2 => ?_) (fun h2 => ?_)
  · have h2 : k < names.length := by simpa using h2
    obtain ⟨x, hx⟩ := getN' h2
    have hxl := hn x (List.mem_of_getElem? hx)
    (repeat (first | refine zI ?_ | refine zL ?_ | refine zC ?_ | refine yag ?_ | refine yaf ?_ | refine zR ?_ | refine zD ?_ | refine zK ?_ | refine zB ?_ | refine zA ?_ | refine zS ?_ | refine zU ?_ | refine zV ?_ | refine zF ?_ | with_reducible refine yab ?_ | with_reducible refine yad ?_ | refine yaa ?_ | refine yac ?_ | refine yae ?_ | refine zT ?_ | refine zE ?_ | refine zX ?_ | refine yak rfl rfl (rname_con x (by omega)) rfl rfl ?_))
    refine ych 19 rfl (fun h3 => ?_) (fun h3 => ?_)
    · (repeat (first | refine zI ?_ | refine zL ?_ | refine zC ?_ | refine yag ?_ | refine yaf ?_ | refine zR ?_ | refine zD ?_ | refine zK ?_ | refine zB ?_ | refine zA ?_ | refine zS ?_ | refine zU ?_ | refine zV ?_ | refine zF ?_ | with_reducible refine yab ?_ | with_reducible refine yad ?_ | refine yaa ?_ | refine yac ?_ | refine yae ?_ | refine zT ?_ | refine zE ?_ | refine zX ?_))
      refine yar ?_; refine ⟨_, rfl, ?_⟩
      exact ybr (good_false1 hx (by simpa using h3)).symm
    · (repeat (first | refine zI ?_ | refine zL ?_ | refine zC ?_ | refine yag ?_ | refine yaf ?_ | refine zR ?_ | refine zD ?_ | refine zK ?_ | refine zB ?_ | refine zA ?_ | refine zS ?_ | refine zU ?_ | refine zV ?_ | refine zF ?_ | with_reducible refine yab ?_ | with_reducible refine yad ?_ | refine yaa ?_ | refine yac ?_ | refine yae ?_ | refine zT ?_ | refine zE ?_ | refine zX ?_ | refine L_slslice tok rfl rfl rfl rfl (by show (0 : Int) ≤ 0; omega) (by show (0 : Int) ≤ (k : Int); omega) (by show (k : Int) ≤ ((List.map _ names).length : Int); rw [List.length_map]; omega) rfl rfl ?_))
      rw [show List.drop (((none : Option Int)).getD 0).toNat (List.take ((some (k : Int)).getD ((names.map fun x => [yey (ba x)]).length : Int)).toNat (names.map fun x => [yey (ba x)])) = (names.take k).map (fun x => [yey (ba x)]) by simp [List.map_take]]
      (repeat (first | refine zI ?_ | refine zL ?_ | refine zC ?_ | refine yag ?_ | refine yaf ?_ | refine zR ?_ | refine zD ?_ | refine zK ?_ | refine zB ?_ | refine zA ?_ | refine zS ?_ | refine zU ?_ | refine zV ?_ | refine zF ?_ | with_reducible refine yab ?_ | with_reducible refine yad ?_ | refine yaa ?_ | refine yac ?_ | refine yae ?_ | refine zT ?_ | refine zE ?_ | refine zX ?_ | refine yak rfl rfl (rindex_con (names.take k) x (by rw [List.length_take]; omega)) rfl rfl ?_))
      cases hi : idxW (names.take k) x with
      | some i =>
        have h4 : (names.take k).contains x = true := by simpa using idxW_mem hi
        (repeat (first | refine zI ?_ | refine zL ?_ | refine zC ?_ | refine yag ?_ | refine yaf ?_ | refine zR ?_ | refine zD ?_ | refine zK ?_ | refine zB ?_ | refine zA ?_ | refine zS ?_ | refine zU ?_ | refine zV ?_ | refine zF ?_ | with_reducible refine yab ?_ | with_reducible refine yad ?_ | refine yaa ?_ | refine yac ?_ | refine yae ?_ | refine zT ?_ | refine zE ?_ | refine zX ?_))
        refine yar ?_; refine ⟨_, rfl, ?_⟩
        exact ybr (good_false2 hx h4).symm
      | none =>
        have h4 : (names.take k).contains x = false := by simpa using idx_not hi
        (repeat (first | refine zI ?_ | refine zL ?_ | refine zC ?_ | refine yag ?_ | refine yaf ?_ | refine zR ?_ | refine zD ?_ | refine zK ?_ | refine zB ?_ | refine zA ?_ | refine zS ?_ | refine zU ?_ | refine zV ?_ | refine zF ?_ | with_reducible refine yab ?_ | with_reducible refine yad ?_ | refine yaa ?_ | refine yac ?_ | refine yae ?_ | refine zT ?_ | refine zE ?_ | refine zX ?_))
        have := take_good hx ha hd (by simpa using h3) h4
        exact rnd (k + 1) ⟨by omega, this.1, this.2⟩ (by omega) (by (repeat (first | exact ycd | refine ybn rfl ?_))) yan
  · have h2 : names.length ≤ k := by simpa using h2
    rw [List.take_of_length_le h2] at ha hd
    (repeat (first | refine zI ?_ | refine zL ?_ | refine zC ?_ | refine yag ?_ | refine yaf ?_ | refine zR ?_ | refine zD ?_ | refine zK ?_ | refine zB ?_ | refine zA ?_ | refine zS ?_ | refine zU ?_ | refine zV ?_ | refine zF ?_ | with_reducible refine yab ?_ | with_reducible refine yad ?_ | refine yaa ?_ | refine yac ?_ | refine yae ?_ | refine zT ?_ | refine zE ?_ | refine zX ?_))
    refine yar ?_; refine ⟨_, rfl, ?_⟩
    exact ybr (by simp only [yeo, ha, decide_eq_true hd, decide_eq_true h1]; rfl)
theorem ybx (op : Int) (es : List (List Tm)) (hl : es.length ≤ 10) (h1 : es.flatten.length ≤ 1000000) : Con Tryz.prog 60 [i64 op, encExprs es] (yay ((op, 0) :: es.flatten)) := by
  refine ybw Tryz.func60 rfl rfl Tryz.ntmps60 Tryz.results60 rfl rfl ?_
  (repeat (first | with_reducible refine yad ?_ | with_reducible refine yab ?_ | refine yac ?_ | refine yaf ?_ | refine yaa ?_)); refine yah (lf := lfT) rfl ?_
  (repeat (first | refine zI ?_ | refine zL ?_ | refine zC ?_ | refine zK ?_ | refine zB ?_ | refine zA ?_ | refine zS ?_ | refine zU ?_ | refine zV ?_ | refine zF ?_ | refine zX ?_ | refine yag ?_))
  (repeat (first | with_reducible refine yad ?_ | with_reducible refine yab ?_ | refine yac ?_ | refine yaf ?_ | refine yaa ?_)); refine yah (lf := lfT) rfl ?_
  (repeat (first | refine zC ?_ | refine zU ?_))
  refine L_buildM tok 9 rfl rfl rfl rfl rfl rfl ⟨rfl, fun x y h => ?_, fun j ob h => by cases h⟩ rfl rfl rfl rfl ?_
  · exact (freshT_look (id := 9) rfl) x y h
  (repeat (first | refine zI ?_ | refine zL ?_ | refine zC ?_ | refine zK ?_ | refine zB ?_ | refine zA ?_ | refine zS ?_ | refine zU ?_ | refine zV ?_ | refine zF ?_ | refine zX ?_ | refine yag ?_))
  (repeat (first | with_reducible refine yad ?_ | with_reducible refine yab ?_ | refine yac ?_ | refine yaf ?_ | refine yaa ?_))
  refine A_matVec 9 rfl (by intro y hy; simp [vMap, repA] at hy; rcases hy with rfl | rfl <;> rfl) ?_
  (repeat (first | refine zI ?_ | refine zL ?_ | refine zC ?_ | refine yag ?_ | refine yaf ?_ | refine zR ?_ | refine zD ?_ | refine zK ?_ | refine zB ?_ | refine zA ?_ | refine zS ?_ | refine zU ?_ | refine zV ?_ | refine zF ?_ | with_reducible refine yab ?_ | with_reducible refine yad ?_ | refine yaa ?_ | refine yac ?_ | refine yae ?_ | refine zT ?_ | refine zE ?_ | refine zX ?_))
  refine A_inv (α := Nat) (fun k => [(5, .ls 9 2 (1 + (es.take k).flatten.length)), (6, i64 (k : Int)), (1, encExprs es)]) (fun k => [(9, some (.vec ((((op, 0) :: (es.take k).flatten).map ydg).flatten)))]) (fun k => es.length - k) (fun k => k ≤ es.length) 0 (by omega) (by (repeat (first | exact ycd | refine ybn rfl ?_))) (yai rfl yan) ?_
  intro k hk
  (repeat (first | refine zI ?_ | refine zL ?_ | refine zC ?_ | refine yag ?_ | refine yaf ?_ | refine zR ?_ | refine zD ?_ | refine zK ?_ | refine zB ?_ | refine zA ?_ | refine zS ?_ | refine zU ?_ | refine zV ?_ | refine zF ?_ | with_reducible refine yab ?_ | with_reducible refine yad ?_ | refine yaa ?_ | refine yac ?_ | refine yae ?_ | refine zT ?_ | refine zE ?_ | refine zX ?_))
  refine yam rfl (fun h2 => ?_) (fun h2 => ?_)
  · have h2 : k < es.length := by simpa using h2
    obtain ⟨e, he⟩ := getN' h2
    have hfl : (es.take (k + 1)).flatten = (es.take k).flatten ++ e := by
      rw [List.take_add_one, he]; simp
    have hle : (es.take (k + 1)).flatten.length ≤ es.flatten.length := by
      conv => rhs; rw [← List.take_append_drop (k + 1) es, List.flatten_append, List.length_append]
      omega
    rw [hfl, List.length_append] at hle
    (repeat (first | refine zI ?_ | refine zL ?_ | refine zC ?_ | refine yag ?_ | refine yaf ?_ | refine zR ?_ | refine zD ?_ | refine zK ?_ | refine zB ?_ | refine zA ?_ | refine zS ?_ | refine zU ?_ | refine zV ?_ | refine zF ?_ | with_reducible refine yab ?_ | with_reducible refine yad ?_ | refine yaa ?_ | refine yac ?_ | refine yae ?_ | refine zT ?_ | refine zE ?_ | refine zX ?_))
    refine L_appendV tok (id := 9) (t' := [(6, i64 (k : Int)), (1, encExprs es)]) rfl rfl (by rw [terms_flat]; simp; omega) rfl (terms_pure e) (by rw [List.length_map]; constructor <;> omega) (by (repeat (first | exact subTM_nil | refine subTM_cons rfl rfl ?_))) rfl rfl rfl rfl ?_
    (repeat (first | refine zI ?_ | refine zL ?_ | refine zC ?_ | refine yag ?_ | refine yaf ?_ | refine zR ?_ | refine zD ?_ | refine zK ?_ | refine zB ?_ | refine zA ?_ | refine zS ?_ | refine zU ?_ | refine zV ?_ | refine zF ?_ | with_reducible refine yab ?_ | with_reducible refine yad ?_ | refine yaa ?_ | refine yac ?_ | refine yae ?_ | refine zT ?_ | refine zE ?_ | refine zX ?_))
    have e1 : 1 + (es.take k).flatten.length + (e.map ydg).length = 1 + (es.take (k + 1)).flatten.length := by rw [hfl, List.length_append, List.length_map]; omega
    have e2 : (((op, 0) :: (es.take k).flatten).map ydg).flatten ++ (e.map ydg).flatten = (((op, 0) :: (es.take (k + 1)).flatten).map ydg).flatten := by rw [hfl]; simp
    rw [e1, e2]
    exact rnd (k + 1) (by omega) (by omega) (by (repeat (first | exact ycd | refine ybn rfl ?_))) (yai rfl yan)
  · have h2 : es.length ≤ k := by simpa using h2
    rw [List.take_of_length_le h2]
    (repeat (first | refine zI ?_ | refine zL ?_ | refine zC ?_ | refine yag ?_ | refine yaf ?_ | refine zR ?_ | refine zD ?_ | refine zK ?_ | refine zB ?_ | refine zA ?_ | refine zS ?_ | refine zU ?_ | refine zV ?_ | refine zF ?_ | with_reducible refine yab ?_ | with_reducible refine yad ?_ | refine yaa ?_ | refine yac ?_ | refine yae ?_ | refine zT ?_ | refine zE ?_ | refine zX ?_))
    refine yar ?_; refine ⟨_, rfl, ?_⟩
    refine Frz.ls rfl (by rw [List.length_map, List.length_cons]; omega) (fun row hr => by obtain ⟨t, _, rfl⟩ := List.mem_map.1 hr; rfl) rfl fun x hx i => ybv.ment (terms_pure ((op, 0) :: es.flatten) x hx)
section
variable {s : ByteArray} {names : List Bs} {ts : List Tok} {a : Nat} {err pl : Int}
theorem ydl.drop (h : ydl s ts) (a : Nat) : ydl s (ts.drop a) := h.suf (List.drop_suffix a ts)
theorem rfW_cons {t : Tok} {r : List Tok} (h : ts.drop a = t :: r) : rfW s ts a 0 = (pwT s t).w := by rw [rfW, if_pos rfl, h]; rfl
theorem rvar_ok {t : Tok} {r : List Tok} {x : Nat} {op : Int} (h : ydl s ts) (hb : ts.length ≤ 100000) (hl : names.length ≤ 1000) (hs : s.size ≤ 1000000000) (hd : ts.drop a = t :: r) (hw : nmW (pwT s t).w = true) (hx : idxW names (pwT s t).w = some x) : ConM Tryz.prog 124 [.lp 1001 0, i64 op] (yaq (rfH s names ts a 0 pl)) (yay [(op, (x : Int))]) (yaq (rfH s names ts (a + 1) 0 pl)) := by
  have hwl := word_len (hd ▸ h.drop a) hs
  have ha : a < ts.length := by
    rcases Nat.lt_or_ge a ts.length with h | h
    · exact h
    · rw [List.drop_eq_nil_of_le h] at hd; cases hd
  refine yaz tok Tryz.func124 rfl rfl Tryz.ntmps124 Tryz.results124 rfl (ydw rfl) ?_
  show A _ _ _ _ (S _ _)
  (repeat (first | refine zI ?_ | refine zL ?_ | refine zC ?_ | refine yag ?_ | refine yaf ?_ | refine zR ?_ | refine zD ?_ | refine zK ?_ | refine zB ?_ | refine zA ?_ | refine zS ?_ | refine zU ?_ | refine zV ?_ | refine zF ?_ | with_reducible refine yab ?_ | with_reducible refine yad ?_ | refine yaa ?_ | refine yac ?_ | refine yae ?_ | refine zT ?_ | refine zE ?_ | refine zX ?_ | refine yaw (yau (args := []) rfl rfl rfl rfl rfl (ycl h)) rfl rfl ?_))
  rw [rfW_cons hd]
  (repeat (first | refine zI ?_ | refine zL ?_ | refine zC ?_ | refine yag ?_ | refine yaf ?_ | refine zR ?_ | refine zD ?_ | refine zK ?_ | refine zB ?_ | refine zA ?_ | refine zS ?_ | refine zU ?_ | refine zV ?_ | refine zF ?_ | with_reducible refine yab ?_ | with_reducible refine yad ?_ | refine yaa ?_ | refine yac ?_ | refine yae ?_ | refine zT ?_ | refine zE ?_ | refine zX ?_ | refine yak rfl rfl (rname_con (pwT s t).w (by omega)) rfl rfl ?_))
  refine yam rfl (fun h3 => ?_) (fun h3 => ?_)
  · rw [hw] at h3; cases h3
  (repeat (first | refine zI ?_ | refine zL ?_ | refine zC ?_ | refine yag ?_ | refine yaf ?_ | refine zR ?_ | refine zD ?_ | refine zK ?_ | refine zB ?_ | refine zA ?_ | refine zS ?_ | refine zU ?_ | refine zV ?_ | refine zF ?_ | with_reducible refine yab ?_ | with_reducible refine yad ?_ | refine yaa ?_ | refine yac ?_ | refine yae ?_ | refine zT ?_ | refine zE ?_ | refine zX ?_ | refine yao rfl rfl rfl rfl ?_ | refine yaw (yau (args := []) rfl rfl rfl rfl rfl (ycl h)) rfl rfl ?_))
  rw [rfW_cons hd]
  (repeat (first | refine zI ?_ | refine zL ?_ | refine zC ?_ | refine yag ?_ | refine yaf ?_ | refine zR ?_ | refine zD ?_ | refine zK ?_ | refine zB ?_ | refine zA ?_ | refine zS ?_ | refine zU ?_ | refine zV ?_ | refine zF ?_ | with_reducible refine yab ?_ | with_reducible refine yad ?_ | refine yaa ?_ | refine yac ?_ | refine yae ?_ | refine zT ?_ | refine zE ?_ | refine zX ?_ | refine yak rfl rfl (rindex_con names (pwT s t).w hl) rfl rfl ?_))
  rw [hx]
  (repeat (first | refine zI ?_ | refine zL ?_ | refine zC ?_ | refine yag ?_ | refine yaf ?_ | refine zR ?_ | refine zD ?_ | refine zK ?_ | refine zB ?_ | refine zA ?_ | refine zS ?_ | refine zU ?_ | refine zV ?_ | refine zF ?_ | with_reducible refine yab ?_ | with_reducible refine yad ?_ | refine yaa ?_ | refine yac ?_ | refine yae ?_ | refine zT ?_ | refine zE ?_ | refine zX ?_ | refine yao rfl rfl rfl rfl ?_))
  refine yar ?_
  exact ⟨_, rfl, yav _, yap (yai rfl yan)⟩
theorem rvar_dead (op : Int) (h : ydl s ts) (he : err ≠ 0) : ConM Tryz.prog 124 [.lp 1001 0, i64 op] (yaq (rfH s names ts a err pl)) (yay []) (yaq (rfH s names ts a err pl)) := by
  refine yaz tok Tryz.func124 rfl rfl Tryz.ntmps124 Tryz.results124 rfl (ydw rfl) ?_
  show A _ _ _ _ (S _ _)
  (repeat (first | refine zI ?_ | refine zL ?_ | refine zC ?_ | refine yag ?_ | refine yaf ?_ | refine zR ?_ | refine zD ?_ | refine zK ?_ | refine zB ?_ | refine zA ?_ | refine zS ?_ | refine zU ?_ | refine zV ?_ | refine zF ?_ | with_reducible refine yab ?_ | with_reducible refine yad ?_ | refine yaa ?_ | refine yac ?_ | refine yae ?_ | refine zT ?_ | refine zE ?_ | refine zX ?_ | refine yaw (yau (args := []) rfl rfl rfl rfl rfl (ycl h)) rfl rfl ?_))
  have hn : nmW [] = false := nameB_empty _ rfl
  rw [show rfW s ts a err = [] by rw [rfW, if_neg he]]
  (repeat (first | refine zI ?_ | refine zL ?_ | refine zC ?_ | refine yag ?_ | refine yaf ?_ | refine zR ?_ | refine zD ?_ | refine zK ?_ | refine zB ?_ | refine zA ?_ | refine zS ?_ | refine zU ?_ | refine zV ?_ | refine zF ?_ | with_reducible refine yab ?_ | with_reducible refine yad ?_ | refine yaa ?_ | refine yac ?_ | refine yae ?_ | refine zT ?_ | refine zE ?_ | refine zX ?_ | refine yak rfl rfl (rname_con [] (by simp)) rfl rfl ?_))
  rw [hn]
  (repeat (first | refine zI ?_ | refine zL ?_ | refine zC ?_ | refine yag ?_ | refine yaf ?_ | refine zR ?_ | refine zD ?_ | refine zK ?_ | refine zB ?_ | refine zA ?_ | refine zS ?_ | refine zU ?_ | refine zV ?_ | refine zF ?_ | with_reducible refine yab ?_ | with_reducible refine yad ?_ | refine yaa ?_ | refine yac ?_ | refine yae ?_ | refine zT ?_ | refine zE ?_ | refine zX ?_ | refine ybl 1001 (fail_dead 4 he) rfl rfl rfl rfl rfl rfl rfl rfl rfl rfl rfl rfl ?_))
  refine yar ?_
  exact ⟨_, rfl, wk_nil _, yap (yai rfl yan)⟩
theorem rvar_bad {c : Int} {rest : List PW} {op : Int} (h : ydl s ts) (hb : ts.length ≤ 100000) (ha : a ≤ ts.length) (hl : names.length ≤ 1000) (hs : s.size ≤ 1000000000) (hv : varR nmW names op ((ts.drop a).map (pwT s)) = .bad c rest) : ConM Tryz.prog 124 [.lp 1001 0, i64 op] (yaq (rfH s names ts a 0 pl)) (yay []) (yaq (rfH s names ts a c (yez s (ts.drop a)))) := by
  refine yaz tok Tryz.func124 rfl rfl Tryz.ntmps124 Tryz.results124 rfl (ydw rfl) ?_
  show A _ _ _ _ (S _ _)
  have hwl : (ybg ((ts.drop a).map (pwT s))).length ≤ 1000000000 := by
    cases hd : ts.drop a with
    | nil => simp [ybg]
    | cons t r => exact word_len (hd ▸ h.drop a) hs
  (repeat (first | refine zI ?_ | refine zL ?_ | refine zC ?_ | refine yag ?_ | refine yaf ?_ | refine zR ?_ | refine zD ?_ | refine zK ?_ | refine zB ?_ | refine zA ?_ | refine zS ?_ | refine zU ?_ | refine zV ?_ | refine zF ?_ | with_reducible refine yab ?_ | with_reducible refine yad ?_ | refine yaa ?_ | refine yac ?_ | refine yae ?_ | refine zT ?_ | refine zE ?_ | refine zX ?_ | refine yaw (yau (args := []) rfl rfl rfl rfl rfl (ycl h)) rfl rfl ?_))
  rw [show rfW s ts a 0 = ybg ((ts.drop a).map (pwT s)) from if_pos rfl]
  (repeat (first | refine zI ?_ | refine zL ?_ | refine zC ?_ | refine yag ?_ | refine yaf ?_ | refine zR ?_ | refine zD ?_ | refine zK ?_ | refine zB ?_ | refine zA ?_ | refine zS ?_ | refine zU ?_ | refine zV ?_ | refine zF ?_ | with_reducible refine yab ?_ | with_reducible refine yad ?_ | refine yaa ?_ | refine yac ?_ | refine yae ?_ | refine zT ?_ | refine zE ?_ | refine zX ?_ | refine yak rfl rfl (rname_con (ybg ((ts.drop a).map (pwT s))) (by omega)) rfl rfl ?_))
  refine yam rfl (fun h3 => ?_) (fun h3 => ?_)
  · have hn : nmW (ybg ((ts.drop a).map (pwT s))) = false := by simpa using h3
    have hc : c = 4 := by
      cases hd : ts.drop a with
      | nil => rw [hd] at hv; simp only [List.map_nil, varR, Res.bad.injEq] at hv; exact hv.1.symm
      | cons t r =>
        rw [hd] at hv hn
        have hn : nmW (pwT s t).w = false := hn
        simp only [List.map_cons, varR, hn, Bool.false_eq_true, if_false, Res.bad.injEq] at hv
        exact hv.1.symm
    subst hc
    (repeat (first | refine zI ?_ | refine zL ?_ | refine zC ?_ | refine yag ?_ | refine yaf ?_ | refine zR ?_ | refine zD ?_ | refine zK ?_ | refine zB ?_ | refine zA ?_ | refine zS ?_ | refine zU ?_ | refine zV ?_ | refine zF ?_ | with_reducible refine yab ?_ | with_reducible refine yad ?_ | refine yaa ?_ | refine yac ?_ | refine yae ?_ | refine zT ?_ | refine zE ?_ | refine zX ?_ | refine ybl 1001 (fail_rf 4 ha) rfl rfl rfl rfl rfl rfl rfl rfl rfl rfl rfl rfl ?_))
    refine yar ?_
    exact ⟨_, rfl, wk_nil _, yap (yai rfl yan)⟩
  · have hn : nmW (ybg ((ts.drop a).map (pwT s))) = true := by simpa using h3
    obtain ⟨t, r, hd⟩ : ∃ t r, ts.drop a = t :: r := by
      cases hd : ts.drop a with
      | nil => rw [hd] at hn; have : nmW [] = false := nameB_empty _ rfl; rw [show ybg (List.map (pwT s) []) = [] from rfl, this] at hn; cases hn
      | cons t r => exact ⟨t, r, rfl⟩
    rw [hd] at hv hn
    have hn : nmW (pwT s t).w = true := hn
    simp only [List.map_cons, varR, hn, if_true] at hv
    cases hx : idxW names (pwT s t).w with
    | some x => rw [hx] at hv; cases hv
    | none =>
      rw [hx] at hv
      simp only [Res.bad.injEq] at hv
      obtain ⟨rfl, _⟩ := hv
      (repeat (first | refine zI ?_ | refine zL ?_ | refine zC ?_ | refine yag ?_ | refine yaf ?_ | refine zR ?_ | refine zD ?_ | refine zK ?_ | refine zB ?_ | refine zA ?_ | refine zS ?_ | refine zU ?_ | refine zV ?_ | refine zF ?_ | with_reducible refine yab ?_ | with_reducible refine yad ?_ | refine yaa ?_ | refine yac ?_ | refine yae ?_ | refine zT ?_ | refine zE ?_ | refine zX ?_ | refine yao rfl rfl rfl rfl ?_ | refine yaw (yau (args := []) rfl rfl rfl rfl rfl (ycl h)) rfl rfl ?_))
      rw [rfW_cons hd]
      (repeat (first | refine zI ?_ | refine zL ?_ | refine zC ?_ | refine yag ?_ | refine yaf ?_ | refine zR ?_ | refine zD ?_ | refine zK ?_ | refine zB ?_ | refine zA ?_ | refine zS ?_ | refine zU ?_ | refine zV ?_ | refine zF ?_ | with_reducible refine yab ?_ | with_reducible refine yad ?_ | refine yaa ?_ | refine yac ?_ | refine yae ?_ | refine zT ?_ | refine zE ?_ | refine zX ?_ | refine yak rfl rfl (rindex_con names (pwT s t).w hl) rfl rfl ?_))
      rw [hx]
      (repeat (first | refine zI ?_ | refine zL ?_ | refine zC ?_ | refine yag ?_ | refine yaf ?_ | refine zR ?_ | refine zD ?_ | refine zK ?_ | refine zB ?_ | refine zA ?_ | refine zS ?_ | refine zU ?_ | refine zV ?_ | refine zF ?_ | with_reducible refine yab ?_ | with_reducible refine yad ?_ | refine yaa ?_ | refine yac ?_ | refine yae ?_ | refine zT ?_ | refine zE ?_ | refine zX ?_ | refine ybl 1001 (fail_rf 5 ha) rfl rfl rfl rfl rfl rfl rfl rfl rfl rfl rfl rfl ?_))
      refine yar ?_
      exact ⟨_, rfl, wk_nil _, yap (yai rfl yan)⟩
end
end Go.Proofs.YtcpgpiabeimefaaGreatDoor
