/- Part 12 of the texts under ExprStopsAtTheError: joined, with what it needs alone. -/
import Derived.Lib.Bytealg
import Derived.Deep.LoopGhost
import Derived.Test.YtcpgpiabeimefaaDoorQ9
import Derived.Test.YtcpgpiabeimefaaDoorQ11
set_option linter.unusedVariables false
set_option maxRecDepth 100000
set_option maxHeartbeats 4000000
namespace Go.Proofs.YtcpgpiabeimefaaDoor
open Go.RowKit
theorem getN' {α : Type} {l : List α} {k : Nat} (h : k < l.length) : ∃ x, l[k]? = some x := ⟨_, List.getElem?_eq_getElem h⟩
theorem drop_at' {α : Type} {l : List α} {k : Nat} {x : α} (h : l[k]? = some x) : l.drop k = x :: l.drop (k + 1) := by
  rw [List.drop_eq_getElem_cons (List.getElem?_eq_some_iff.1 h).1, (List.getElem?_eq_some_iff.1 h).2]
theorem idx_next {l : List Bs} {w x : Bs} {k : Nat} (h : idxW l w = (idxW (l.drop k) w).map (· + k)) (hx : l[k]? = some x) (hn : x ≠ w) : idxW l w = (idxW (l.drop (k + 1)) w).map (· + (k + 1)) := by
  rw [h, drop_at' hx, idxW, if_neg hn, Option.map_map]
  congr 1
  funext j
  simp only [Function.comp]
  omega
theorem idx_here {l : List Bs} {w x : Bs} {k : Nat} (h : idxW l w = (idxW (l.drop k) w).map (· + k)) (hx : l[k]? = some x) (hn : x = w) : idxW l w = some k := by
  rw [h, drop_at' hx, idxW, if_pos hn]
  simp
theorem idx_end {l : List Bs} {w : Bs} {k : Nat} (h : idxW l w = (idxW (l.drop k) w).map (· + k)) (hk : l.length ≤ k) : idxW l w = none := by
  rw [h, List.drop_eq_nil_of_le hk]; rfl
theorem idx_not {l : List Bs} {w : Bs} : idxW l w = none → w ∉ l := by
  induction l with
  | nil => intro _ h; cases h
  | cons x l ih =>
    intro h hm
    rw [idxW] at h
    split at h
    · cases h
    · rename_i hne
      rcases List.mem_cons.1 hm with rfl | hm
      · exact hne rfl
      · exact ih (by cases hq : idxW l w with | none => rfl | some i => rw [hq] at h; cases h) hm
theorem find_con (first : Int) (l : List Bs) (w : Bs) (h0 : 0 ≤ first ∧ first ≤ 1000) (hl : l.length ≤ 1000) : Con Tryd.prog 71 [strA (ba w), i64 first, ybu l] (i64 (findL first l w)) := by
  refine yed Tryd.func71 rfl rfl Tryd.ntmps71 Tryd.results71 rfl rfl ?_
  (repeat (first | refine zI ?_ | refine zL ?_ | refine zC ?_ | refine yaf ?_ | refine yae ?_ | refine zR ?_ | refine zD ?_ | refine zK ?_ | refine zB ?_ | refine zA ?_ | refine zS ?_ | refine zU ?_ | refine zV ?_ | refine zF ?_ | with_reducible refine yab ?_ | with_reducible refine yad ?_ | refine yaa ?_ | refine yac ?_ | refine yaj ?_ | refine zT ?_ | refine zE ?_ | refine zX ?_))
  refine yas rfl (fun h => ?_) (fun h => ?_)
  · have hw : w = [] := by
      simp only [yfk] at h
      simpa using h
    (repeat (first | refine zI ?_ | refine zL ?_ | refine zC ?_ | refine yaf ?_ | refine yae ?_ | refine zR ?_ | refine zD ?_ | refine zK ?_ | refine zB ?_ | refine zA ?_ | refine zS ?_ | refine zU ?_ | refine zV ?_ | refine zF ?_ | with_reducible refine yab ?_ | with_reducible refine yad ?_ | refine yaa ?_ | refine yac ?_ | refine yaj ?_ | refine zT ?_ | refine zE ?_ | refine zX ?_))
    refine ybc ?_; refine ⟨_, rfl, ?_⟩
    exact frz_i64 (by rw [findL, if_pos hw])
  have hw : w ≠ [] := by rintro rfl; simp [yfk] at h
  clear h
  (repeat (first | refine zI ?_ | refine zL ?_ | refine zC ?_ | refine yaf ?_ | refine yae ?_ | refine zR ?_ | refine zD ?_ | refine zK ?_ | refine zB ?_ | refine zA ?_ | refine zS ?_ | refine zU ?_ | refine zV ?_ | refine zF ?_ | with_reducible refine yab ?_ | with_reducible refine yad ?_ | refine yaa ?_ | refine yac ?_ | refine yaj ?_ | refine zT ?_ | refine zE ?_ | refine zX ?_))
  refine A_inv (α := Nat) (fun k => [(13, i64 (k : Int)), (12, i64 (l.length : Int)), (11, ybu l), (1, i64 first), (0, strA (ba w))]) (fun k => []) (fun k => l.length - k) (fun k => k ≤ l.length ∧ idxW l w = (idxW (l.drop k) w).map (· + k)) 0 ⟨by omega, by simp⟩ (by (repeat (first | exact ydt | refine ycz rfl ?_))) (yat) ?_
  · rintro k ⟨hk, hinv⟩
    (repeat (first | refine zI ?_ | refine zL ?_ | refine zC ?_ | refine yaf ?_ | refine yae ?_ | refine zR ?_ | refine zD ?_ | refine zK ?_ | refine zB ?_ | refine zA ?_ | refine zS ?_ | refine zU ?_ | refine zV ?_ | refine zF ?_ | with_reducible refine yab ?_ | with_reducible refine yad ?_ | refine yaa ?_ | refine yac ?_ | refine yaj ?_ | refine zT ?_ | refine zE ?_ | refine zX ?_))
    refine yas rfl (fun h2 => ?_) (fun h2 => ?_)
    · have h2 : k < l.length := by simpa using h2
      obtain ⟨x, hx⟩ := getN' h2
      (repeat (first | refine zI ?_ | refine zL ?_ | refine zC ?_ | refine yaf ?_ | refine yae ?_ | refine zR ?_ | refine zD ?_ | refine zK ?_ | refine zB ?_ | refine zA ?_ | refine zS ?_ | refine zU ?_ | refine zV ?_ | refine zF ?_ | with_reducible refine yab ?_ | with_reducible refine yad ?_ | refine yaa ?_ | refine yac ?_ | refine yaj ?_ | refine zT ?_ | refine zE ?_ | refine zX ?_))
      refine yas rfl (fun h3 => ?_) (fun h3 => ?_)
      · have h3 : x = w := by simpa [yfk] using h3
        (repeat (first | refine zI ?_ | refine zL ?_ | refine zC ?_ | refine yaf ?_ | refine yae ?_ | refine zR ?_ | refine zD ?_ | refine zK ?_ | refine zB ?_ | refine zA ?_ | refine zS ?_ | refine zU ?_ | refine zV ?_ | refine zF ?_ | with_reducible refine yab ?_ | with_reducible refine yad ?_ | refine yaa ?_ | refine yac ?_ | refine yaj ?_ | refine zT ?_ | refine zE ?_ | refine zX ?_))
        refine ybc ?_; refine ⟨_, rfl, ?_⟩
        exact frz_i64 (by rw [findL, if_neg hw, idx_here hinv hx h3])
      · have h3 : x ≠ w := by simpa [yfk] using h3
        (repeat (first | refine zI ?_ | refine zL ?_ | refine zC ?_ | refine yaf ?_ | refine yae ?_ | refine zR ?_ | refine zD ?_ | refine zK ?_ | refine zB ?_ | refine zA ?_ | refine zS ?_ | refine zU ?_ | refine zV ?_ | refine zF ?_ | with_reducible refine yab ?_ | with_reducible refine yad ?_ | refine yaa ?_ | refine yac ?_ | refine yaj ?_ | refine zT ?_ | refine zE ?_ | refine zX ?_))
        exact rnd (k + 1) ⟨by omega, idx_next hinv hx h3⟩ (by omega) (by (repeat (first | exact ydt | refine ycz rfl ?_))) yat
    · have h2 : l.length ≤ k := by simpa using h2
      (repeat (first | refine zI ?_ | refine zL ?_ | refine zC ?_ | refine yaf ?_ | refine yae ?_ | refine zR ?_ | refine zD ?_ | refine zK ?_ | refine zB ?_ | refine zA ?_ | refine zS ?_ | refine zU ?_ | refine zV ?_ | refine zF ?_ | with_reducible refine yab ?_ | with_reducible refine yad ?_ | refine yaa ?_ | refine yac ?_ | refine yaj ?_ | refine zT ?_ | refine zE ?_ | refine zX ?_))
      refine ybc ?_; refine ⟨_, rfl, ?_⟩
      exact frz_i64 (by rw [findL, if_neg hw, idx_end hinv h2])
theorem binarySigns_con : Con Tryd.prog 44 [] (ybu binL) := by
  refine yed Tryd.func44 rfl rfl Tryd.ntmps44 Tryd.results44 rfl rfl ?_
  (repeat (first | refine zI ?_ | refine zL ?_ | refine zC ?_ | refine yaf ?_ | refine yae ?_ | refine zR ?_ | refine zD ?_ | refine zK ?_ | refine zB ?_ | refine zA ?_ | refine zS ?_ | refine zU ?_ | refine zV ?_ | refine zF ?_ | with_reducible refine yab ?_ | with_reducible refine yad ?_ | refine yaa ?_ | refine yac ?_ | refine yaj ?_ | refine zT ?_ | refine zE ?_ | refine zX ?_))
  refine ybc ?_; refine ⟨_, rfl, ?_⟩
  exact Frz.pure
theorem aggregateWords_con : Con Tryd.prog 64 [] (ybu aggL) := by
  refine yed Tryd.func64 rfl rfl Tryd.ntmps64 Tryd.results64 rfl rfl ?_
  (repeat (first | refine zI ?_ | refine zL ?_ | refine zC ?_ | refine yaf ?_ | refine yae ?_ | refine zR ?_ | refine zD ?_ | refine zK ?_ | refine zB ?_ | refine zA ?_ | refine zS ?_ | refine zU ?_ | refine zV ?_ | refine zF ?_ | with_reducible refine yab ?_ | with_reducible refine yad ?_ | refine yaa ?_ | refine yac ?_ | refine yaj ?_ | refine zT ?_ | refine zE ?_ | refine zX ?_))
  refine ybc ?_; refine ⟨_, rfl, ?_⟩
  exact Frz.pure
theorem constantWords_con : Con Tryd.prog 67 [] (ybu constL) := by
  refine yed Tryd.func67 rfl rfl Tryd.ntmps67 Tryd.results67 rfl rfl ?_
  (repeat (first | refine zI ?_ | refine zL ?_ | refine zC ?_ | refine yaf ?_ | refine yae ?_ | refine zR ?_ | refine zD ?_ | refine zK ?_ | refine zB ?_ | refine zA ?_ | refine zS ?_ | refine zU ?_ | refine zV ?_ | refine zF ?_ | with_reducible refine yab ?_ | with_reducible refine yad ?_ | refine yaa ?_ | refine yac ?_ | refine yaj ?_ | refine zT ?_ | refine zE ?_ | refine zX ?_))
  refine ybc ?_; refine ⟨_, rfl, ?_⟩
  exact Frz.pure
theorem fieldWords_con : Con Tryd.prog 66 [] (ybu fieldL) := by
  refine yed Tryd.func66 rfl rfl Tryd.ntmps66 Tryd.results66 rfl rfl ?_
  (repeat (first | refine zI ?_ | refine zL ?_ | refine zC ?_ | refine yaf ?_ | refine yae ?_ | refine zR ?_ | refine zD ?_ | refine zK ?_ | refine zB ?_ | refine zA ?_ | refine zS ?_ | refine zU ?_ | refine zV ?_ | refine zF ?_ | with_reducible refine yab ?_ | with_reducible refine yad ?_ | refine yaa ?_ | refine yac ?_ | refine yaj ?_ | refine zT ?_ | refine zE ?_ | refine zX ?_))
  refine ybc ?_; refine ⟨_, rfl, ?_⟩
  exact Frz.pure
theorem binaryOp_con (w : Bs) : Con Tryd.prog 54 [strA (ba w)] (i64 (binO w)) := by
  refine yed Tryd.func54 rfl rfl Tryd.ntmps54 Tryd.results54 rfl rfl ?_
  (repeat (first | refine zI ?_ | refine zL ?_ | refine zC ?_ | refine yaf ?_ | refine yae ?_ | refine zR ?_ | refine zD ?_ | refine zK ?_ | refine zB ?_ | refine zA ?_ | refine zS ?_ | refine zU ?_ | refine zV ?_ | refine zF ?_ | with_reducible refine yab ?_ | with_reducible refine yad ?_ | refine yaa ?_ | refine yac ?_ | refine yaj ?_ | refine zT ?_ | refine zE ?_ | refine zX ?_ | refine yap rfl rfl binarySigns_con rfl rfl ?_ | refine yap rfl rfl (find_con 30 binL w (by omega) (by decide)) rfl rfl ?_))
  refine ybc ?_; refine ⟨_, rfl, ?_⟩
  exact Frz.pure
theorem aggregateOp_con (w : Bs) : Con Tryd.prog 79 [strA (ba w)] (i64 (aggO w)) := by
  refine yed Tryd.func79 rfl rfl Tryd.ntmps79 Tryd.results79 rfl rfl ?_
  (repeat (first | refine zI ?_ | refine zL ?_ | refine zC ?_ | refine yaf ?_ | refine yae ?_ | refine zR ?_ | refine zD ?_ | refine zK ?_ | refine zB ?_ | refine zA ?_ | refine zS ?_ | refine zU ?_ | refine zV ?_ | refine zF ?_ | with_reducible refine yab ?_ | with_reducible refine yad ?_ | refine yaa ?_ | refine yac ?_ | refine yaj ?_ | refine zT ?_ | refine zE ?_ | refine zX ?_ | refine yap rfl rfl aggregateWords_con rfl rfl ?_ | refine yap rfl rfl (find_con 20 aggL w (by omega) (by decide)) rfl rfl ?_))
  refine ybc ?_; refine ⟨_, rfl, ?_⟩
  exact Frz.pure
theorem ycq (w : Bs) : Con Tryd.prog 78 [strA (ba w)] (i64 (constO w)) := by
  refine yed Tryd.func78 rfl rfl Tryd.ntmps78 Tryd.results78 rfl rfl ?_
  (repeat (first | refine zI ?_ | refine zL ?_ | refine zC ?_ | refine yaf ?_ | refine yae ?_ | refine zR ?_ | refine zD ?_ | refine zK ?_ | refine zB ?_ | refine zA ?_ | refine zS ?_ | refine zU ?_ | refine zV ?_ | refine zF ?_ | with_reducible refine yab ?_ | with_reducible refine yad ?_ | refine yaa ?_ | refine yac ?_ | refine yaj ?_ | refine zT ?_ | refine zE ?_ | refine zX ?_ | refine yap rfl rfl constantWords_con rfl rfl ?_ | refine yap rfl rfl (find_con 2 constL w (by omega) (by decide)) rfl rfl ?_))
  refine ybc ?_; refine ⟨_, rfl, ?_⟩
  exact Frz.pure
theorem fieldOp_con (w : Bs) : Con Tryd.prog 83 [strA (ba w)] (i64 (fieldO w)) := by
  refine yed Tryd.func83 rfl rfl Tryd.ntmps83 Tryd.results83 rfl rfl ?_
  (repeat (first | refine zI ?_ | refine zL ?_ | refine zC ?_ | refine yaf ?_ | refine yae ?_ | refine zR ?_ | refine zD ?_ | refine zK ?_ | refine zB ?_ | refine zA ?_ | refine zS ?_ | refine zU ?_ | refine zV ?_ | refine zF ?_ | with_reducible refine yab ?_ | with_reducible refine yad ?_ | refine yaa ?_ | refine yac ?_ | refine yaj ?_ | refine zT ?_ | refine zE ?_ | refine zX ?_ | refine yap rfl rfl fieldWords_con rfl rfl ?_ | refine yap rfl rfl (find_con 13 fieldL w (by omega) (by decide)) rfl rfl ?_))
  refine ybc ?_; refine ⟨_, rfl, ?_⟩
  exact Frz.pure
theorem ycl (op : Int) : Con Tryd.prog 41 [i64 op] (i64 (yej op)) := by
  by_cases h : op = 43 ∨ op = 42 ∨ op = 41 ∨ op = 35 ∨ op = 36 ∨ op = 37 ∨ op = 38 ∨ op = 39 ∨ op = 40 ∨ op = 33 ∨ op = 34 ∨ op = 30 ∨ op = 31 ∨ op = 32 ∨ op = 18 ∨ op = 19
  · rcases h with rfl | rfl | rfl | rfl | rfl | rfl | rfl | rfl | rfl | rfl | rfl | rfl | rfl | rfl | rfl | rfl
    all_goals
      refine yed Tryd.func41 rfl rfl Tryd.ntmps41 Tryd.results41 rfl rfl ?_
      (repeat (first | refine zI ?_ | refine zL ?_ | refine zC ?_ | refine yaf ?_ | refine yae ?_ | refine zR ?_ | refine zD ?_ | refine zK ?_ | refine zB ?_ | refine zA ?_ | refine zS ?_ | refine zU ?_ | refine zV ?_ | refine zF ?_ | with_reducible refine yab ?_ | with_reducible refine yad ?_ | refine yaa ?_ | refine yac ?_ | refine yaj ?_ | refine zT ?_ | refine zE ?_ | refine zX ?_))
      refine ybc ?_; refine ⟨_, rfl, ?_⟩
      exact Frz.pure
  simp only [not_or] at h
  refine yed Tryd.func41 rfl rfl Tryd.ntmps41 Tryd.results41 rfl rfl ?_
  iterate 16 ((repeat (first | refine zI ?_ | refine zL ?_ | refine zC ?_ | refine yaf ?_ | refine yae ?_ | refine zR ?_ | refine zD ?_ | refine zK ?_ | refine zB ?_ | refine zA ?_ | refine zS ?_ | refine zU ?_ | refine zV ?_ | refine zF ?_ | with_reducible refine yab ?_ | with_reducible refine yad ?_ | refine yaa ?_ | refine yac ?_ | refine yaj ?_ | refine zT ?_ | refine zE ?_ | refine zX ?_)); refine yas rfl (fun h2 => absurd h2 (by simp; omega)) (fun _ => ?_))
  (repeat (first | refine zI ?_ | refine zL ?_ | refine zC ?_ | refine yaf ?_ | refine yae ?_ | refine zR ?_ | refine zD ?_ | refine zK ?_ | refine zB ?_ | refine zA ?_ | refine zS ?_ | refine zU ?_ | refine zV ?_ | refine zF ?_ | with_reducible refine yab ?_ | with_reducible refine yad ?_ | refine yaa ?_ | refine yac ?_ | refine yaj ?_ | refine zT ?_ | refine zE ?_ | refine zX ?_))
  refine ybc ?_; refine ⟨_, rfl, ?_⟩
  have e : yej op = 7 := by
    unfold yej
    simp only [h, if_false, or_false]
    rw [if_neg (by omega), if_neg (by omega)]
  rw [e]
  exact Frz.pure
theorem A_matVec {P : Program} {N : Nat} {c : Code} {Q : Exit → SS → Prop} {t : List (Nat × AV)} {h : List (Nat × Option LObj)} (id : Nat) {xs : List AV} (hx : yal h id = some (.mcells xs)) (hp : ∀ y ∈ xs, ybn y = true) (k : A P N c Q (S t ((id, some (.vec xs)) :: h))) : A P N c Q (S t h) := by
  intro B ok0 lv a w hs
  refine k B ok0 lv a w ⟨⟨hs.inv.base, hs.inv.ok0lt, fun j hj => ?_, hs.inv.inj, fun j x hj => ?_⟩, hs.size, hs.frame, hs.defers, hs.big, fun j b ws hN hj hc hb => ?_⟩
  · refine hs.inv.dom j ?_
    simp only [S, yal] at hj ⊢
    split at hj
    · cases hj
    · exact hj
  · simp only [S, yal] at hj
    split at hj
    · rename_i hb
      cases hj
      have e := Nat.eq_of_beq_eq_true hb
      subst e
      obtain ⟨b, n, h1, h2⟩ := hs.inv.obj j _ hx
      refine ⟨b, n, h1, ?_⟩
      cases b with
      | none => simp [OwnAt] at h2
      | some b => exact ⟨h2.1, h2.2.1, h2.2.2, hp⟩
    · exact hs.inv.obj j x hj
  · simp only [S, yal] at hj
    split at hj
    · cases hj; cases hc
    · exact hs.pin j b ws hN hj hc hb
theorem leaf_own (op a : Int) : ConM Tryd.prog 57 [i64 op, i64 a] (yal []) (.ls 1002 2 1) (yal [(1002, some (.vec [i64 op, i64 a]))]) := by
  refine yco tok Tryd.func57 rfl rfl Tryd.ntmps57 Tryd.results57 rfl (fun id o ho hc => ?_) ?_
  · simp only [yal] at ho
    cases h1 : Nat.beq id 1002 with
    | true => simp only [h1, Option.some.injEq] at ho; subst ho; cases hc
    | false => simp only [h1] at ho; cases ho
  show A _ _ _ _ (S _ _)
  (repeat (first | with_reducible refine yad ?_ | with_reducible refine yab ?_ | refine yac ?_ | refine yae ?_ | refine yaa ?_)); refine yag (lf := lfT) rfl ?_
  (repeat (first | refine zI ?_ | refine zL ?_ | refine zC ?_ | refine zK ?_ | refine zB ?_ | refine zA ?_ | refine zS ?_ | refine zU ?_ | refine zV ?_ | refine zF ?_ | refine zX ?_ | refine yaf ?_))
  (repeat (first | with_reducible refine yad ?_ | with_reducible refine yab ?_ | refine yac ?_ | refine yae ?_ | refine yaa ?_)); refine yag (lf := lfT) rfl ?_
  (repeat (first | refine zC ?_ | refine zU ?_))
  refine L_buildM tok 1002 rfl rfl rfl rfl rfl rfl ⟨rfl, fun x y h => ?_, fun j ob h => by cases h⟩ rfl rfl rfl rfl ?_
  · exact (freshT_look (id := 1002) rfl) x y h
  (repeat (first | refine zI ?_ | refine zL ?_ | refine zC ?_ | refine zK ?_ | refine zB ?_ | refine zA ?_ | refine zS ?_ | refine zU ?_ | refine zV ?_ | refine zF ?_ | refine zX ?_ | refine yaf ?_))
  (repeat (first | with_reducible refine yad ?_ | with_reducible refine yab ?_ | refine yac ?_ | refine yae ?_ | refine yaa ?_))
  refine A_matVec 1002 rfl (by intro y hy; simp [vMap, repA] at hy; rcases hy with rfl | rfl <;> rfl) ?_
  refine ybc ?_
  exact ⟨_, rfl, ybi _, yax (yam rfl yat)⟩
theorem leaf_con (op a : Int) : Con Tryd.prog 57 [i64 op, i64 a] (ybz [(op, a)]) := by
  refine yed Tryd.func57 rfl rfl Tryd.ntmps57 Tryd.results57 rfl rfl ?_
  (repeat (first | refine zI ?_ | refine zL ?_ | refine zC ?_ | refine yaf ?_ | refine yae ?_ | refine zR ?_ | refine zD ?_ | refine zK ?_ | refine zB ?_ | refine zA ?_ | refine zS ?_ | refine zU ?_ | refine zV ?_ | refine zF ?_ | with_reducible refine yab ?_ | with_reducible refine yad ?_ | refine yaa ?_ | refine yac ?_ | refine yaj ?_ | refine zT ?_ | refine zE ?_ | refine zX ?_))
  refine ybc ?_; refine ⟨_, rfl, ?_⟩
  exact Frz.pure
theorem terms_flat (l : List Tm) : (l.map encTerm).flatten.length = l.length * 2 := by
  induction l with
  | nil => rfl
  | cons t l ih => simp only [List.map_cons, List.flatten_cons, List.length_append, ih, List.length_cons, encTerm, List.length_nil]; omega
theorem terms_pure (l : List Tm) : ∀ c ∈ (l.map encTerm).flatten, ybn c = true := by
  intro c hc
  simp only [List.mem_flatten, List.mem_map] at hc
  obtain ⟨r, ⟨t, _, rfl⟩, hc⟩ := hc
  simp only [encTerm, List.mem_cons, List.not_mem_nil, or_false] at hc
  rcases hc with rfl | rfl <;> rfl
def encExprs (es : List (List Tm)) : AV := .sl 1 (es.map fun e => [ybz e])
theorem operation_con (op : Int) (es : List (List Tm)) (hl : es.length ≤ 10) (h1 : es.flatten.length ≤ 1000000) : Con Tryd.prog 36 [i64 op, encExprs es] (ybz ((op, 0) :: es.flatten)) := by
  refine yed Tryd.func36 rfl rfl Tryd.ntmps36 Tryd.results36 rfl rfl ?_
  (repeat (first | with_reducible refine yad ?_ | with_reducible refine yab ?_ | refine yac ?_ | refine yae ?_ | refine yaa ?_)); refine yag (lf := lfT) rfl ?_
  (repeat (first | refine zI ?_ | refine zL ?_ | refine zC ?_ | refine zK ?_ | refine zB ?_ | refine zA ?_ | refine zS ?_ | refine zU ?_ | refine zV ?_ | refine zF ?_ | refine zX ?_ | refine yaf ?_))
  (repeat (first | with_reducible refine yad ?_ | with_reducible refine yab ?_ | refine yac ?_ | refine yae ?_ | refine yaa ?_)); refine yag (lf := lfT) rfl ?_
  (repeat (first | refine zI ?_ | refine zL ?_ | refine zC ?_ | refine zK ?_ | refine zB ?_ | refine zA ?_ | refine zS ?_ | refine zU ?_ | refine zV ?_ | refine zF ?_ | refine zX ?_ | refine yaf ?_))
  refine yex [(1002, 9)] (leaf_own op 0) rfl rfl rfl rfl rfl rfl rfl (yat) rfl rfl rfl rfl rfl rfl ?_
  (repeat (first | refine zI ?_ | refine zL ?_ | refine zC ?_ | refine zK ?_ | refine zB ?_ | refine zA ?_ | refine zS ?_ | refine zU ?_ | refine zV ?_ | refine zF ?_ | refine zX ?_ | refine yaf ?_))
  (repeat (first | refine zI ?_ | refine zL ?_ | refine zC ?_ | refine yaf ?_ | refine yae ?_ | refine zR ?_ | refine zD ?_ | refine zK ?_ | refine zB ?_ | refine zA ?_ | refine zS ?_ | refine zU ?_ | refine zV ?_ | refine zF ?_ | with_reducible refine yab ?_ | with_reducible refine yad ?_ | refine yaa ?_ | refine yac ?_ | refine yaj ?_ | refine zT ?_ | refine zE ?_ | refine zX ?_))
  refine A_inv (α := Nat) (fun k => [(5, .ls 9 2 (1 + (es.take k).flatten.length)), (12, i64 (k : Int)), (11, i64 (es.length : Int)), (10, encExprs es)]) (fun k => [(9, some (.vec ((((op, 0) :: (es.take k).flatten).map encTerm).flatten)))]) (fun k => es.length - k) (fun k => k ≤ es.length) 0 (by omega) (by (repeat (first | exact ydt | refine ycz rfl ?_))) (yam rfl yat) ?_
  intro k hk
  (repeat (first | refine zI ?_ | refine zL ?_ | refine zC ?_ | refine yaf ?_ | refine yae ?_ | refine zR ?_ | refine zD ?_ | refine zK ?_ | refine zB ?_ | refine zA ?_ | refine zS ?_ | refine zU ?_ | refine zV ?_ | refine zF ?_ | with_reducible refine yab ?_ | with_reducible refine yad ?_ | refine yaa ?_ | refine yac ?_ | refine yaj ?_ | refine zT ?_ | refine zE ?_ | refine zX ?_))
  refine yas rfl (fun h2 => ?_) (fun h2 => ?_)
  · have h2 : k < es.length := by simpa using h2
    obtain ⟨e, he⟩ := getN' h2
    have hfl : (es.take (k + 1)).flatten = (es.take k).flatten ++ e := by
      rw [List.take_add_one, he]; simp
    have hle : (es.take (k + 1)).flatten.length ≤ es.flatten.length := by
      conv => rhs; rw [← List.take_append_drop (k + 1) es, List.flatten_append, List.length_append]
      omega
    rw [hfl, List.length_append] at hle
    (repeat (first | refine zI ?_ | refine zL ?_ | refine zC ?_ | refine yaf ?_ | refine yae ?_ | refine zR ?_ | refine zD ?_ | refine zK ?_ | refine zB ?_ | refine zA ?_ | refine zS ?_ | refine zU ?_ | refine zV ?_ | refine zF ?_ | with_reducible refine yab ?_ | with_reducible refine yad ?_ | refine yaa ?_ | refine yac ?_ | refine yaj ?_ | refine zT ?_ | refine zE ?_ | refine zX ?_))
    refine L_appendV tok (id := 9) (t' := [(12, i64 (k : Int)), (11, i64 (es.length : Int)), (10, encExprs es)]) rfl rfl (by rw [terms_flat]; simp; omega) rfl (terms_pure e) (by rw [List.length_map]; constructor <;> omega) (by (repeat (first | exact subTM_nil | refine subTM_cons rfl rfl ?_))) rfl rfl rfl rfl ?_
    (repeat (first | refine zI ?_ | refine zL ?_ | refine zC ?_ | refine yaf ?_ | refine yae ?_ | refine zR ?_ | refine zD ?_ | refine zK ?_ | refine zB ?_ | refine zA ?_ | refine zS ?_ | refine zU ?_ | refine zV ?_ | refine zF ?_ | with_reducible refine yab ?_ | with_reducible refine yad ?_ | refine yaa ?_ | refine yac ?_ | refine yaj ?_ | refine zT ?_ | refine zE ?_ | refine zX ?_))
    have e1 : 1 + (es.take k).flatten.length + (e.map encTerm).length = 1 + (es.take (k + 1)).flatten.length := by rw [hfl, List.length_append, List.length_map]; omega
    have e2 : (((op, 0) :: (es.take k).flatten).map encTerm).flatten ++ (e.map encTerm).flatten = (((op, 0) :: (es.take (k + 1)).flatten).map encTerm).flatten := by rw [hfl]; simp
    rw [e1, e2]
    exact rnd (k + 1) (by omega) (by omega) (by (repeat (first | exact ydt | refine ycz rfl ?_))) (yam rfl yat)
  · have h2 : es.length ≤ k := by simpa using h2
    rw [List.take_of_length_le h2]
    (repeat (first | refine zI ?_ | refine zL ?_ | refine zC ?_ | refine yaf ?_ | refine yae ?_ | refine zR ?_ | refine zD ?_ | refine zK ?_ | refine zB ?_ | refine zA ?_ | refine zS ?_ | refine zU ?_ | refine zV ?_ | refine zF ?_ | with_reducible refine yab ?_ | with_reducible refine yad ?_ | refine yaa ?_ | refine yac ?_ | refine yaj ?_ | refine zT ?_ | refine zE ?_ | refine zX ?_))
    refine ybc ?_; refine ⟨_, rfl, ?_⟩
    refine Frz.ls rfl (by rw [List.length_map, List.length_cons]; omega) (fun row hr => by obtain ⟨t, _, rfl⟩ := List.mem_map.1 hr; rfl) rfl fun x hx i => ybn.ment (terms_pure ((op, 0) :: es.flatten) x hx)
theorem index_con (l : List Bs) (w : Bs) (hl : l.length ≤ 1000) : Con Tryd.prog 48 [ybu l, strA (ba w)] (i64 (match idxW l w with | some i => (i : Int) | none => -1)) := by
  refine yed Tryd.func48 rfl rfl Tryd.ntmps48 Tryd.results48 rfl rfl ?_
  (repeat (first | refine zI ?_ | refine zL ?_ | refine zC ?_ | refine yaf ?_ | refine yae ?_ | refine zR ?_ | refine zD ?_ | refine zK ?_ | refine zB ?_ | refine zA ?_ | refine zS ?_ | refine zU ?_ | refine zV ?_ | refine zF ?_ | with_reducible refine yab ?_ | with_reducible refine yad ?_ | refine yaa ?_ | refine yac ?_ | refine yaj ?_ | refine zT ?_ | refine zE ?_ | refine zX ?_))
  refine A_inv (α := Nat) (fun k => [(8, i64 (k : Int)), (7, i64 (l.length : Int)), (1, strA (ba w)), (0, ybu l)]) (fun k => []) (fun k => l.length - k) (fun k => k ≤ l.length ∧ idxW l w = (idxW (l.drop k) w).map (· + k)) 0 ⟨by omega, by simp⟩ (by (repeat (first | exact ydt | refine ycz rfl ?_))) (yat) ?_
  rintro k ⟨hk, hinv⟩
  (repeat (first | refine zI ?_ | refine zL ?_ | refine zC ?_ | refine yaf ?_ | refine yae ?_ | refine zR ?_ | refine zD ?_ | refine zK ?_ | refine zB ?_ | refine zA ?_ | refine zS ?_ | refine zU ?_ | refine zV ?_ | refine zF ?_ | with_reducible refine yab ?_ | with_reducible refine yad ?_ | refine yaa ?_ | refine yac ?_ | refine yaj ?_ | refine zT ?_ | refine zE ?_ | refine zX ?_))
  refine yas rfl (fun h2 => ?_) (fun h2 => ?_)
  · have h2 : k < l.length := by simpa using h2
    obtain ⟨x, hx⟩ := getN' h2
    (repeat (first | refine zI ?_ | refine zL ?_ | refine zC ?_ | refine yaf ?_ | refine yae ?_ | refine zR ?_ | refine zD ?_ | refine zK ?_ | refine zB ?_ | refine zA ?_ | refine zS ?_ | refine zU ?_ | refine zV ?_ | refine zF ?_ | with_reducible refine yab ?_ | with_reducible refine yad ?_ | refine yaa ?_ | refine yac ?_ | refine yaj ?_ | refine zT ?_ | refine zE ?_ | refine zX ?_))
    refine yas rfl (fun h3 => ?_) (fun h3 => ?_)
    · have h3 : w = x := by simpa [yfk] using h3
      (repeat (first | refine zI ?_ | refine zL ?_ | refine zC ?_ | refine yaf ?_ | refine yae ?_ | refine zR ?_ | refine zD ?_ | refine zK ?_ | refine zB ?_ | refine zA ?_ | refine zS ?_ | refine zU ?_ | refine zV ?_ | refine zF ?_ | with_reducible refine yab ?_ | with_reducible refine yad ?_ | refine yaa ?_ | refine yac ?_ | refine yaj ?_ | refine zT ?_ | refine zE ?_ | refine zX ?_))
      refine ybc ?_; refine ⟨_, rfl, ?_⟩
      exact frz_i64 (by rw [idx_here hinv hx h3.symm])
    · have h3 : w ≠ x := by simpa [yfk] using h3
      (repeat (first | refine zI ?_ | refine zL ?_ | refine zC ?_ | refine yaf ?_ | refine yae ?_ | refine zR ?_ | refine zD ?_ | refine zK ?_ | refine zB ?_ | refine zA ?_ | refine zS ?_ | refine zU ?_ | refine zV ?_ | refine zF ?_ | with_reducible refine yab ?_ | with_reducible refine yad ?_ | refine yaa ?_ | refine yac ?_ | refine yaj ?_ | refine zT ?_ | refine zE ?_ | refine zX ?_))
      exact rnd (k + 1) ⟨by omega, idx_next hinv hx h3.symm⟩ (by omega) (by (repeat (first | exact ydt | refine ycz rfl ?_))) yat
  · have h2 : l.length ≤ k := by simpa using h2
    (repeat (first | refine zI ?_ | refine zL ?_ | refine zC ?_ | refine yaf ?_ | refine yae ?_ | refine zR ?_ | refine zD ?_ | refine zK ?_ | refine zB ?_ | refine zA ?_ | refine zS ?_ | refine zU ?_ | refine zV ?_ | refine zF ?_ | with_reducible refine yab ?_ | with_reducible refine yad ?_ | refine yaa ?_ | refine yac ?_ | refine yaj ?_ | refine zT ?_ | refine zE ?_ | refine zX ?_))
    refine ybc ?_; refine ⟨_, rfl, ?_⟩
    exact frz_i64 (by rw [idx_end hinv h2])
theorem contains_con (l : List Bs) (w : Bs) (hl : l.length ≤ 1000) : Con Tryd.prog 28 [ybu l, strA (ba w)] (boolA (l.contains w)) := by
  refine yed Tryd.func28 rfl rfl Tryd.ntmps28 Tryd.results28 rfl rfl ?_
  (repeat (first | refine zI ?_ | refine zL ?_ | refine zC ?_ | refine yaf ?_ | refine yae ?_ | refine zR ?_ | refine zD ?_ | refine zK ?_ | refine zB ?_ | refine zA ?_ | refine zS ?_ | refine zU ?_ | refine zV ?_ | refine zF ?_ | with_reducible refine yab ?_ | with_reducible refine yad ?_ | refine yaa ?_ | refine yac ?_ | refine yaj ?_ | refine zT ?_ | refine zE ?_ | refine zX ?_ | refine yap rfl rfl (index_con l w hl) rfl rfl ?_))
  refine ybc ?_; refine ⟨_, rfl, ?_⟩
  refine ycj ?_
  cases h : idxW l w with
  | none =>
    have : l.contains w = false := by simpa using idx_not h
    rw [this]; rfl
  | some i =>
    have : l.contains w = true := by simpa using idxW_mem h
    rw [this]
    simp
theorem name_con (w : Bs) (hw : w.length ≤ 9223372036854775807) : Con Tryd.prog 27 [strA (ba w)] (boolA (nmW w)) :=
  con_of_calls ⟨_, Tryd.func27, rfl, rfl⟩ fun w0 us ok hok hr => by
    obtain ⟨u, rfl, h1⟩ := relAll1 hr
    cases h1
    refine (name_any (ba w) w0 (by rw [yau]; exact hw)).mono ?_
    rintro e w' ⟨rfl, rfl⟩
    exact ⟨rfl, Below.refl _ _⟩
theorem take_good {nm : Bs → Bool} {names : List Bs} {k : Nat} {x : Bs} (hx : names[k]? = some x) (ha : (names.take k).all nm = true) (hd : (names.take k).Nodup) (h1 : nm x = true) (h2 : (names.take k).contains x = false) : (names.take (k + 1)).all nm = true ∧ (names.take (k + 1)).Nodup := by
  rw [List.take_add_one, hx]
  simp only [Option.toList_some]
  refine ⟨by simp [ha, h1], ?_⟩
  rw [List.nodup_append]
  refine ⟨hd, by simp, fun a ha2 b hb => ?_⟩
  simp only [List.mem_singleton] at hb
  subst hb
  rintro rfl
  simp at h2
  exact h2 ha2
theorem good_false1 {nm : Bs → Bool} {names : List Bs} {k : Nat} {x : Bs} (hx : names[k]? = some x) (h1 : nm x = false) : yff nm names = false := by
  have : names.all nm = false := by
    rw [List.all_eq_false]
    exact ⟨x, List.mem_of_getElem? hx, by simp [h1]⟩
  simp [yff, this]
theorem good_false2 {nm : Bs → Bool} {names : List Bs} {k : Nat} {x : Bs} (hx : names[k]? = some x) (h1 : (names.take k).contains x = true) : yff nm names = false := by
  have : ¬ names.Nodup := by
    intro hn
    rw [← List.take_append_drop k names, List.nodup_append] at hn
    have h2 : x ∈ names.drop k := by rw [drop_at' hx]; simp
    exact hn.2.2 x (by simpa using h1) x h2 rfl
  simp [yff, this]
theorem good_con (names : List Bs) (hl : names.length ≤ 1000) (hn : ∀ x ∈ names, x.length ≤ 1000) : Con Tryd.prog 11 [ybu names] (boolA (yff nmW names)) := by
  refine yed Tryd.func11 rfl rfl Tryd.ntmps11 Tryd.results11 rfl rfl ?_
  (repeat (first | refine zI ?_ | refine zL ?_ | refine zC ?_ | refine yaf ?_ | refine yae ?_ | refine zR ?_ | refine zD ?_ | refine zK ?_ | refine zB ?_ | refine zA ?_ | refine zS ?_ | refine zU ?_ | refine zV ?_ | refine zF ?_ | with_reducible refine yab ?_ | with_reducible refine yad ?_ | refine yaa ?_ | refine yac ?_ | refine yaj ?_ | refine zT ?_ | refine zE ?_ | refine zX ?_))
  refine yas rfl (fun h1 => ?_) (fun h1 => ?_)
  · have h1 : 6 < names.length := by simp at h1; omega
    (repeat (first | refine zI ?_ | refine zL ?_ | refine zC ?_ | refine yaf ?_ | refine yae ?_ | refine zR ?_ | refine zD ?_ | refine zK ?_ | refine zB ?_ | refine zA ?_ | refine zS ?_ | refine zU ?_ | refine zV ?_ | refine zF ?_ | with_reducible refine yab ?_ | with_reducible refine yad ?_ | refine yaa ?_ | refine yac ?_ | refine yaj ?_ | refine zT ?_ | refine zE ?_ | refine zX ?_))
    refine ybc ?_; refine ⟨_, rfl, ?_⟩
    exact ycj (by simp [yff, show ¬ names.length ≤ 6 by omega])
  have h1 : names.length ≤ 6 := by simp at h1; omega
  (repeat (first | refine zI ?_ | refine zL ?_ | refine zC ?_ | refine yaf ?_ | refine yae ?_ | refine zR ?_ | refine zD ?_ | refine zK ?_ | refine zB ?_ | refine zA ?_ | refine zS ?_ | refine zU ?_ | refine zV ?_ | refine zF ?_ | with_reducible refine yab ?_ | with_reducible refine yad ?_ | refine yaa ?_ | refine yac ?_ | refine yaj ?_ | refine zT ?_ | refine zE ?_ | refine zX ?_))
  refine A_inv (α := Nat) (fun k => [(10, i64 (k : Int)), (9, i64 (names.length : Int)), (8, ybu names), (0, ybu names)]) (fun k => []) (fun k => names.length - k) (fun k => k ≤ names.length ∧ (names.take k).all nmW = true ∧ (names.take k).Nodup) 0 ⟨by omega, by simp, by simp⟩ (by (repeat (first | exact ydt | refine ycz rfl ?_))) (yat) ?_
  rintro k ⟨hk, ha, hd⟩
  (repeat (first | refine zI ?_ | refine zL ?_ | refine zC ?_ | refine yaf ?_ | refine yae ?_ | refine zR ?_ | refine zD ?_ | refine zK ?_ | refine zB ?_ | refine zA ?_ | refine zS ?_ | refine zU ?_ | refine zV ?_ | refine zF ?_ | with_reducible refine yab ?_ | with_reducible refine yad ?_ | refine yaa ?_ | refine yac ?_ | refine yaj ?_ | refine zT ?_ | refine zE ?_ | refine zX ?_))
  refine yas rfl (fun h2 => ?_) (fun h2 => ?_)
  · have h2 : k < names.length := by simpa using h2
    obtain ⟨x, hx⟩ := getN' h2
    have hxl := hn x (List.mem_of_getElem? hx)
    (repeat (first | refine zI ?_ | refine zL ?_ | refine zC ?_ | refine yaf ?_ | refine yae ?_ | refine zR ?_ | refine zD ?_ | refine zK ?_ | refine zB ?_ | refine zA ?_ | refine zS ?_ | refine zU ?_ | refine zV ?_ | refine zF ?_ | with_reducible refine yab ?_ | with_reducible refine yad ?_ | refine yaa ?_ | refine yac ?_ | refine yaj ?_ | refine zT ?_ | refine zE ?_ | refine zX ?_ | refine yap rfl rfl (name_con x (by omega)) rfl rfl ?_))
    refine ycm 18 rfl (fun h3 => ?_) (fun h3 => ?_)
    · (repeat (first | refine zI ?_ | refine zL ?_ | refine zC ?_ | refine yaf ?_ | refine yae ?_ | refine zR ?_ | refine zD ?_ | refine zK ?_ | refine zB ?_ | refine zA ?_ | refine zS ?_ | refine zU ?_ | refine zV ?_ | refine zF ?_ | with_reducible refine yab ?_ | with_reducible refine yad ?_ | refine yaa ?_ | refine yac ?_ | refine yaj ?_ | refine zT ?_ | refine zE ?_ | refine zX ?_))
      refine ybc ?_; refine ⟨_, rfl, ?_⟩
      exact ycj (good_false1 hx (by simpa using h3)).symm
    · (repeat (first | refine zI ?_ | refine zL ?_ | refine zC ?_ | refine yaf ?_ | refine yae ?_ | refine zR ?_ | refine zD ?_ | refine zK ?_ | refine zB ?_ | refine zA ?_ | refine zS ?_ | refine zU ?_ | refine zV ?_ | refine zF ?_ | with_reducible refine yab ?_ | with_reducible refine yad ?_ | refine yaa ?_ | refine yac ?_ | refine yaj ?_ | refine zT ?_ | refine zE ?_ | refine zX ?_ | refine L_slslice tok rfl rfl rfl rfl (by show (0 : Int) ≤ 0; omega) (by show (0 : Int) ≤ (k : Int); omega) (by show (k : Int) ≤ ((List.map _ names).length : Int); rw [List.length_map]; omega) rfl rfl ?_))
      rw [show List.drop (((none : Option Int)).getD 0).toNat (List.take ((some (k : Int)).getD ((names.map fun x => [strA (ba x)]).length : Int)).toNat (names.map fun x => [strA (ba x)])) = (names.take k).map (fun x => [strA (ba x)]) by simp [List.map_take]]
      (repeat (first | refine zI ?_ | refine zL ?_ | refine zC ?_ | refine yaf ?_ | refine yae ?_ | refine zR ?_ | refine zD ?_ | refine zK ?_ | refine zB ?_ | refine zA ?_ | refine zS ?_ | refine zU ?_ | refine zV ?_ | refine zF ?_ | with_reducible refine yab ?_ | with_reducible refine yad ?_ | refine yaa ?_ | refine yac ?_ | refine yaj ?_ | refine zT ?_ | refine zE ?_ | refine zX ?_ | refine yap rfl rfl (contains_con (names.take k) x (by rw [List.length_take]; omega)) rfl rfl ?_))
      refine yas rfl (fun h4 => ?_) (fun h4 => ?_)
      · (repeat (first | refine zI ?_ | refine zL ?_ | refine zC ?_ | refine yaf ?_ | refine yae ?_ | refine zR ?_ | refine zD ?_ | refine zK ?_ | refine zB ?_ | refine zA ?_ | refine zS ?_ | refine zU ?_ | refine zV ?_ | refine zF ?_ | with_reducible refine yab ?_ | with_reducible refine yad ?_ | refine yaa ?_ | refine yac ?_ | refine yaj ?_ | refine zT ?_ | refine zE ?_ | refine zX ?_))
        refine ybc ?_; refine ⟨_, rfl, ?_⟩
        exact ycj (good_false2 hx h4).symm
      · (repeat (first | refine zI ?_ | refine zL ?_ | refine zC ?_ | refine yaf ?_ | refine yae ?_ | refine zR ?_ | refine zD ?_ | refine zK ?_ | refine zB ?_ | refine zA ?_ | refine zS ?_ | refine zU ?_ | refine zV ?_ | refine zF ?_ | with_reducible refine yab ?_ | with_reducible refine yad ?_ | refine yaa ?_ | refine yac ?_ | refine yaj ?_ | refine zT ?_ | refine zE ?_ | refine zX ?_))
        have := take_good hx ha hd (by simpa using h3) h4
        exact rnd (k + 1) ⟨by omega, this.1, this.2⟩ (by omega) (by (repeat (first | exact ydt | refine ycz rfl ?_))) yat
  · have h2 : names.length ≤ k := by simpa using h2
    rw [List.take_of_length_le h2] at ha hd
    (repeat (first | refine zI ?_ | refine zL ?_ | refine zC ?_ | refine yaf ?_ | refine yae ?_ | refine zR ?_ | refine zD ?_ | refine zK ?_ | refine zB ?_ | refine zA ?_ | refine zS ?_ | refine zU ?_ | refine zV ?_ | refine zF ?_ | with_reducible refine yab ?_ | with_reducible refine yad ?_ | refine yaa ?_ | refine yac ?_ | refine yaj ?_ | refine zT ?_ | refine zE ?_ | refine zX ?_))
    refine ybc ?_; refine ⟨_, rfl, ?_⟩
    exact ycj (by simp only [yff, ha, decide_eq_true hd, decide_eq_true h1]; rfl)
end Go.Proofs.YtcpgpiabeimefaaDoor
set_option maxRecDepth 100000
namespace Go.Proofs.YtcpgpiabeimefaaDoor
open Go.RowKit

theorem indexByte_slite (s : ByteArray) (c : Int) (w : World) :
    Calls Tryd.prog 75 #[.string s, .int .u8 c] w fun e w' => e = .returned (.int .i64 (Lib.indexByte s.data.toList c.toNat.toUInt8)) ∧ w = w' := by
  go_enter Tryd.func75, Tryd.ntmps75
  go_wp2
  rw [run_callFunc_extern Tryd.func82 (by kernel_rfl) (by kernel_rfl) (by kernel_rfl) (e := Extern.BytealgIndexByte.indexByte) (by kernel_rfl), Lib.run_indexByteString]
  simp only [Result.andThen]
  rw [Oper.upon_value]
  go_wp2
  go_ret
  exact ⟨rfl, rfl⟩

theorem indexByte_any (s : ByteArray) (c : Int) (w : World) :
    Calls Tryd.prog 69 #[.string s, .int .u8 c] w fun e w' => e = .returned (.int .i64 (Lib.indexByte s.data.toList c.toNat.toUInt8)) ∧ w = w' := by
  go_enter Tryd.func69, Tryd.ntmps69
  go_wp2_with (go_at_call 75; refine (indexByte_slite _ _ _).mono ?_; rintro e w' ⟨rfl, rfl⟩)
  go_ret
  exact ⟨rfl, rfl⟩

def preB (s p : ByteArray) : Bool := decide (p.size ≤ s.size) && ((s.extract 0 p.size).toList == p.toList)

theorem ycp (s p : ByteArray) (_hs : s.size ≤ 9223372036854775807) (w : World) :
    Calls Tryd.prog 68 #[.string s, .string p] w fun e w' => e = .returned (.bool (preB s p)) ∧ w = w' := by
  by_cases h : p.size ≤ s.size
  all_goals
    go_enter Tryd.func68, Tryd.ntmps68
    go_wp2
    go_ret
    refine ⟨yay ?_, rfl⟩
    simp [preB, h]

def pre2 (a b : UInt8) : List UInt8 → Bool
  | x :: y :: _ => x == a && y == b
  | _ => false
theorem preB_two (t : ByteArray) (a b : UInt8) : preB t { data := #[a, b] } = pre2 a b (yah t 0) := by
  unfold preB
  rw [Lib.toList_data, Lib.toList_data, Lib.extract_data]
  obtain ⟨⟨l⟩⟩ := t
  show (decide (2 ≤ l.length) && (List.take 2 (List.drop 0 l) == [a, b])) = pre2 a b (l.drop 0)
  match l with
  | [] => rfl
  | [x] => simp [pre2]
  | x :: y :: l => simp [pre2]
theorem sign_yes (t : ByteArray) (a b : UInt8) (h : preB t { data := #[a, b] } = true) (hs : sign2B a b = true) : ydd (yah t 0) = 2 := by
  rw [preB_two] at h
  match hr : yah t 0 with
  | [] => simp [hr, pre2] at h
  | [x] => simp [hr, pre2] at h
  | x :: y :: l =>
    simp [hr, pre2] at h
    simp [ydd, h, hs]
theorem sign_no (t : ByteArray) (h : 0 < t.size) (h0 : preB t { data := #[46, 46] } = false) (h1 : preB t { data := #[45, 62] } = false) (h2 : preB t { data := #[58, 61] } = false) (h3 : preB t { data := #[38, 38] } = false) (h4 : preB t { data := #[124, 124] } = false) (h5 : preB t { data := #[61, 61] } = false) (h6 : preB t { data := #[33, 61] } = false) (h7 : preB t { data := #[60, 61] } = false) (h8 : preB t { data := #[62, 61] } = false) : ydd (yah t 0) = if sign1B t[0] then 1 else 0 := by
  rw [preB_two] at *
  have hb := ybf t 0 h
  match hr : yah t 0 with
  | [] => rw [hr] at hb; simp at hb
  | [x] => rw [hr] at hb; simp at hb; simp [ydd, hb.1]
  | x :: y :: l =>
    rw [hr] at hb h0 h1 h2 h3 h4 h5 h6 h7 h8
    simp only [List.cons.injEq] at hb
    simp only [pre2] at *
    rw [ydd, if_neg (by simp only [sign2B, h0, h1, h2, h3, h4, h5, h6, h7, h8]; decide), hb.1]
theorem index_signs : ∀ c : UInt8, decide (0 ≤ Lib.indexByte [59, 58, 44, 40, 41, 46, 63, 60, 62, 43, 45, 42, 47, 37, 33] c) = sign1B c := by
  have h : ∀ n : Fin 256, decide (0 ≤ Lib.indexByte [59, 58, 44, 40, 41, 46, 63, 60, 62, 43, 45, 42, 47, 37, 33] (UInt8.ofNat n.val)) = sign1B (UInt8.ofNat n.val) := by decide +kernel
  intro c
  have := h ⟨c.toNat, c.toNat_lt⟩
  simpa using this

set_option maxHeartbeats 2000000 in
theorem sign_any (t : ByteArray) (w : World) (hs : t.size ≤ 20000) (h0 : 0 < t.size) :
    Calls Tryd.prog 52 #[.string t] w fun e w' => e = .returned (.int .i64 (ydd (yah t 0))) ∧ Below w.heap.size w w' := by
  go_enter Tryd.func52, Tryd.ntmps52
  go_wp2
  refine wp_loop_rounds 10 ?_
  rw [rounds_succ]
  go_wp2_with (go_at_call 68; refine (ycp _ _ (by omega) _).mono ?_; rintro e w' ⟨rfl, rfl⟩)
  · go_ret
    have hp : preB t { data := #[46, 46] } = true := by assumption
    exact ⟨yav (by rw [sign_yes t 46 46 hp (by decide)]; rfl), (Below.refl _ _).alloc (Nat.le_refl _) _⟩
  rw [rounds_succ]
  go_wp2_with (go_at_call 68; refine (ycp _ _ (by omega) _).mono ?_; rintro e w' ⟨rfl, rfl⟩)
  · go_ret
    have hp : preB t { data := #[45, 62] } = true := by assumption
    exact ⟨yav (by rw [sign_yes t 45 62 hp (by decide)]; rfl), (Below.refl _ _).alloc (Nat.le_refl _) _⟩
  rw [rounds_succ]
  go_wp2_with (go_at_call 68; refine (ycp _ _ (by omega) _).mono ?_; rintro e w' ⟨rfl, rfl⟩)
  · go_ret
    have hp : preB t { data := #[58, 61] } = true := by assumption
    exact ⟨yav (by rw [sign_yes t 58 61 hp (by decide)]; rfl), (Below.refl _ _).alloc (Nat.le_refl _) _⟩
  rw [rounds_succ]
  go_wp2_with (go_at_call 68; refine (ycp _ _ (by omega) _).mono ?_; rintro e w' ⟨rfl, rfl⟩)
  · go_ret
    have hp : preB t { data := #[38, 38] } = true := by assumption
    exact ⟨yav (by rw [sign_yes t 38 38 hp (by decide)]; rfl), (Below.refl _ _).alloc (Nat.le_refl _) _⟩
  rw [rounds_succ]
  go_wp2_with (go_at_call 68; refine (ycp _ _ (by omega) _).mono ?_; rintro e w' ⟨rfl, rfl⟩)
  · go_ret
    have hp : preB t { data := #[124, 124] } = true := by assumption
    exact ⟨yav (by rw [sign_yes t 124 124 hp (by decide)]; rfl), (Below.refl _ _).alloc (Nat.le_refl _) _⟩
  rw [rounds_succ]
  go_wp2_with (go_at_call 68; refine (ycp _ _ (by omega) _).mono ?_; rintro e w' ⟨rfl, rfl⟩)
  · go_ret
    have hp : preB t { data := #[61, 61] } = true := by assumption
    exact ⟨yav (by rw [sign_yes t 61 61 hp (by decide)]; rfl), (Below.refl _ _).alloc (Nat.le_refl _) _⟩
  rw [rounds_succ]
  go_wp2_with (go_at_call 68; refine (ycp _ _ (by omega) _).mono ?_; rintro e w' ⟨rfl, rfl⟩)
  · go_ret
    have hp : preB t { data := #[33, 61] } = true := by assumption
    exact ⟨yav (by rw [sign_yes t 33 61 hp (by decide)]; rfl), (Below.refl _ _).alloc (Nat.le_refl _) _⟩
  rw [rounds_succ]
  go_wp2_with (go_at_call 68; refine (ycp _ _ (by omega) _).mono ?_; rintro e w' ⟨rfl, rfl⟩)
  · go_ret
    have hp : preB t { data := #[60, 61] } = true := by assumption
    exact ⟨yav (by rw [sign_yes t 60 61 hp (by decide)]; rfl), (Below.refl _ _).alloc (Nat.le_refl _) _⟩
  rw [rounds_succ]
  go_wp2_with (go_at_call 68; refine (ycp _ _ (by omega) _).mono ?_; rintro e w' ⟨rfl, rfl⟩)
  · go_ret
    have hp : preB t { data := #[62, 61] } = true := by assumption
    exact ⟨yav (by rw [sign_yes t 62 61 hp (by decide)]; rfl), (Below.refl _ _).alloc (Nat.le_refl _) _⟩
  rw [rounds_succ]
  go_wp2_with (go_at_call 69; refine (indexByte_any _ _ _).mono ?_; rintro e w' ⟨rfl, rfl⟩)
  all_goals
    go_ret
    refine ⟨yav ?_, (Below.refl _ _).alloc (Nat.le_refl _) _⟩
    rw [sign_no t h0 (by assumption) (by assumption) (by assumption) (by assumption) (by assumption) (by assumption) (by assumption) (by assumption) (by assumption), ← index_signs]
  · rw [if_pos (by simpa using by assumption)]; rfl
  · rw [if_neg (by simpa using by assumption)]; rfl

theorem extract_two (s : ByteArray) (a : Nat) : (s.extract a (a + 2)).toList = (yah s a).take 2 := by
  rw [Lib.extract_toList, show a + 2 - a = 2 by omega]; rfl
theorem yev (s : ByteArray) (a : Nat) (x y : UInt8) (h : ((s.extract a (a + 2)).toList == [x, y]) = true) (hs : sign2B x y = true) : ydd (yah s a) = 2 := by
  rw [extract_two] at h
  match hr : yah s a with
  | [] => simp [hr] at h
  | [x] => simp [hr] at h
  | u :: v :: l =>
    simp [hr] at h
    simp [ydd, h, hs]
theorem rsign_no (s : ByteArray) (a : Nat) (h : a < s.size) (x : List UInt8) (hx : x = (s.extract a (a + 2)).toList) (h0 : (x == [46, 46]) = false) (h1 : (x == [45, 62]) = false) (h2 : (x == [58, 61]) = false) (h3 : (x == [38, 38]) = false) (h4 : (x == [124, 124]) = false) (h5 : (x == [61, 61]) = false) (h6 : (x == [33, 61]) = false) (h7 : (x == [60, 61]) = false) (h8 : (x == [62, 61]) = false) : ydd (yah s a) = if sign1B s[a] then 1 else 0 := by
  rw [extract_two] at hx
  subst hx
  have hb := ybf s a h
  match hr : yah s a with
  | [] => rw [hr] at hb; simp at hb
  | [x] => rw [hr] at hb; simp at hb; simp [ydd, hb.1]
  | x :: y :: l =>
    rw [hr] at hb h0 h1 h2 h3 h4 h5 h6 h7 h8
    simp only [List.cons.injEq] at hb
    simp only [List.take_succ_cons, List.take_zero, List.cons_beq_cons, List.nil_beq_eq, List.isEmpty_nil, Bool.and_true] at *
    rw [ydd, if_neg (by simp only [sign2B, h0, h1, h2, h3, h4, h5, h6, h7, h8]; decide), hb.1]
theorem rsign_one (s : ByteArray) (a : Nat) (h : a < s.size) (h2 : ¬ a + 2 ≤ s.size) : ydd (yah s a) = if sign1B s[a] then 1 else 0 := by
  rw [ybf s a h, bytesFrom_ge s (a + 1) (by omega)]; rfl
theorem ybg (c : UInt8) (n : Nat) (hn : sign1B (UInt8.ofNat n) = true) (h256 : n < 256) (h : ((c.toNat : Int) == (n : Int)) = true) : sign1B c = true := by
  have : c = UInt8.ofNat n := by
    simp only [beq_iff_eq] at h
    rw [← UInt8.toNat_inj, UInt8.toNat_ofNat_of_lt' h256]; omega
  rw [this]; exact hn
theorem sign1_no (c : UInt8) (k0 : ((c.toNat : Int) == 59) = false) (k1 : ((c.toNat : Int) == 58) = false) (k2 : ((c.toNat : Int) == 44) = false) (k3 : ((c.toNat : Int) == 40) = false) (k4 : ((c.toNat : Int) == 41) = false) (k5 : ((c.toNat : Int) == 46) = false) (k6 : ((c.toNat : Int) == 63) = false) (k7 : ((c.toNat : Int) == 60) = false) (k8 : ((c.toNat : Int) == 62) = false) (k9 : ((c.toNat : Int) == 43) = false) (k10 : ((c.toNat : Int) == 45) = false) (k11 : ((c.toNat : Int) == 42) = false) (k12 : ((c.toNat : Int) == 47) = false) (k13 : ((c.toNat : Int) == 37) = false) (k14 : ((c.toNat : Int) == 33) = false) : sign1B c = false := by
  simp only [beq_eq_false_iff_ne] at *
  unfold sign1B
  rw [List.contains_eq_any_beq]
  simp only [List.any_cons, List.any_nil, Bool.or_false, Bool.or_eq_false_iff, beq_eq_false_iff_ne, ne_eq, ← UInt8.toNat_inj]
  refine ⟨?_, ?_, ?_, ?_, ?_, ?_, ?_, ?_, ?_, ?_, ?_, ?_, ?_, ?_, ?_⟩ <;> (intro hq; simp at hq; omega)

set_option maxHeartbeats 4000000 in
theorem rsign_any (s : ByteArray) (a : Nat) (w : World) (hs : s.size ≤ 20000) (h0 : a < s.size) :
    Calls Tryd.prog 26 #[.string s, .int .i64 a] w fun e w' => e = .returned (.int .i64 (ydd (yah s a))) ∧ w = w' := by
  by_cases h2 : a + 2 ≤ s.size
  · rcases Bool.eq_false_or_eq_true ((s.extract a (a + 2)).toList == [46, 46]) with q0 | q0
    · go_enter Tryd.func26, Tryd.ntmps26
      go_wp2
      go_ret
      exact ⟨yav (by rw [yev s a 46 46 q0 (by decide)]; rfl), rfl⟩
    rcases Bool.eq_false_or_eq_true ((s.extract a (a + 2)).toList == [45, 62]) with q1 | q1
    · go_enter Tryd.func26, Tryd.ntmps26
      go_wp2
      go_ret
      exact ⟨yav (by rw [yev s a 45 62 q1 (by decide)]; rfl), rfl⟩
    rcases Bool.eq_false_or_eq_true ((s.extract a (a + 2)).toList == [58, 61]) with q2 | q2
    · go_enter Tryd.func26, Tryd.ntmps26
      go_wp2
      go_ret
      exact ⟨yav (by rw [yev s a 58 61 q2 (by decide)]; rfl), rfl⟩
    rcases Bool.eq_false_or_eq_true ((s.extract a (a + 2)).toList == [38, 38]) with q3 | q3
    · go_enter Tryd.func26, Tryd.ntmps26
      go_wp2
      go_ret
      exact ⟨yav (by rw [yev s a 38 38 q3 (by decide)]; rfl), rfl⟩
    rcases Bool.eq_false_or_eq_true ((s.extract a (a + 2)).toList == [124, 124]) with q4 | q4
    · go_enter Tryd.func26, Tryd.ntmps26
      go_wp2
      go_ret
      exact ⟨yav (by rw [yev s a 124 124 q4 (by decide)]; rfl), rfl⟩
    rcases Bool.eq_false_or_eq_true ((s.extract a (a + 2)).toList == [61, 61]) with q5 | q5
    · go_enter Tryd.func26, Tryd.ntmps26
      go_wp2
      go_ret
      exact ⟨yav (by rw [yev s a 61 61 q5 (by decide)]; rfl), rfl⟩
    rcases Bool.eq_false_or_eq_true ((s.extract a (a + 2)).toList == [33, 61]) with q6 | q6
    · go_enter Tryd.func26, Tryd.ntmps26
      go_wp2
      go_ret
      exact ⟨yav (by rw [yev s a 33 61 q6 (by decide)]; rfl), rfl⟩
    rcases Bool.eq_false_or_eq_true ((s.extract a (a + 2)).toList == [60, 61]) with q7 | q7
    · go_enter Tryd.func26, Tryd.ntmps26
      go_wp2
      go_ret
      exact ⟨yav (by rw [yev s a 60 61 q7 (by decide)]; rfl), rfl⟩
    rcases Bool.eq_false_or_eq_true ((s.extract a (a + 2)).toList == [62, 61]) with q8 | q8
    · go_enter Tryd.func26, Tryd.ntmps26
      go_wp2
      go_ret
      exact ⟨yav (by rw [yev s a 62 61 q8 (by decide)]; rfl), rfl⟩
    have HS := Lib.hid (rsign_no s a h0 _ rfl q0 q1 q2 q3 q4 q5 q6 q7 q8)
    rcases Bool.eq_false_or_eq_true ((s[a].toNat : Int) == 59) with k0 | k0
    · go_enter Tryd.func26, Tryd.ntmps26
      go_wp2
      go_ret
      exact ⟨yav (by rw [HS.out, if_pos (ybg s[a] 59 (by decide) (by decide) k0)]; rfl), rfl⟩
    rcases Bool.eq_false_or_eq_true ((s[a].toNat : Int) == 58) with k1 | k1
    · go_enter Tryd.func26, Tryd.ntmps26
      go_wp2
      go_ret
      exact ⟨yav (by rw [HS.out, if_pos (ybg s[a] 58 (by decide) (by decide) k1)]; rfl), rfl⟩
    rcases Bool.eq_false_or_eq_true ((s[a].toNat : Int) == 44) with k2 | k2
    · go_enter Tryd.func26, Tryd.ntmps26
      go_wp2
      go_ret
      exact ⟨yav (by rw [HS.out, if_pos (ybg s[a] 44 (by decide) (by decide) k2)]; rfl), rfl⟩
    rcases Bool.eq_false_or_eq_true ((s[a].toNat : Int) == 40) with k3 | k3
    · go_enter Tryd.func26, Tryd.ntmps26
      go_wp2
      go_ret
      exact ⟨yav (by rw [HS.out, if_pos (ybg s[a] 40 (by decide) (by decide) k3)]; rfl), rfl⟩
    rcases Bool.eq_false_or_eq_true ((s[a].toNat : Int) == 41) with k4 | k4
    · go_enter Tryd.func26, Tryd.ntmps26
      go_wp2
      go_ret
      exact ⟨yav (by rw [HS.out, if_pos (ybg s[a] 41 (by decide) (by decide) k4)]; rfl), rfl⟩
    rcases Bool.eq_false_or_eq_true ((s[a].toNat : Int) == 46) with k5 | k5
    · go_enter Tryd.func26, Tryd.ntmps26
      go_wp2
      go_ret
      exact ⟨yav (by rw [HS.out, if_pos (ybg s[a] 46 (by decide) (by decide) k5)]; rfl), rfl⟩
    rcases Bool.eq_false_or_eq_true ((s[a].toNat : Int) == 63) with k6 | k6
    · go_enter Tryd.func26, Tryd.ntmps26
      go_wp2
      go_ret
      exact ⟨yav (by rw [HS.out, if_pos (ybg s[a] 63 (by decide) (by decide) k6)]; rfl), rfl⟩
    rcases Bool.eq_false_or_eq_true ((s[a].toNat : Int) == 60) with k7 | k7
    · go_enter Tryd.func26, Tryd.ntmps26
      go_wp2
      go_ret
      exact ⟨yav (by rw [HS.out, if_pos (ybg s[a] 60 (by decide) (by decide) k7)]; rfl), rfl⟩
    rcases Bool.eq_false_or_eq_true ((s[a].toNat : Int) == 62) with k8 | k8
    · go_enter Tryd.func26, Tryd.ntmps26
      go_wp2
      go_ret
      exact ⟨yav (by rw [HS.out, if_pos (ybg s[a] 62 (by decide) (by decide) k8)]; rfl), rfl⟩
    rcases Bool.eq_false_or_eq_true ((s[a].toNat : Int) == 43) with k9 | k9
    · go_enter Tryd.func26, Tryd.ntmps26
      go_wp2
      go_ret
      exact ⟨yav (by rw [HS.out, if_pos (ybg s[a] 43 (by decide) (by decide) k9)]; rfl), rfl⟩
    rcases Bool.eq_false_or_eq_true ((s[a].toNat : Int) == 45) with k10 | k10
    · go_enter Tryd.func26, Tryd.ntmps26
      go_wp2
      go_ret
      exact ⟨yav (by rw [HS.out, if_pos (ybg s[a] 45 (by decide) (by decide) k10)]; rfl), rfl⟩
    rcases Bool.eq_false_or_eq_true ((s[a].toNat : Int) == 42) with k11 | k11
    · go_enter Tryd.func26, Tryd.ntmps26
      go_wp2
      go_ret
      exact ⟨yav (by rw [HS.out, if_pos (ybg s[a] 42 (by decide) (by decide) k11)]; rfl), rfl⟩
    rcases Bool.eq_false_or_eq_true ((s[a].toNat : Int) == 47) with k12 | k12
    · go_enter Tryd.func26, Tryd.ntmps26
      go_wp2
      go_ret
      exact ⟨yav (by rw [HS.out, if_pos (ybg s[a] 47 (by decide) (by decide) k12)]; rfl), rfl⟩
    rcases Bool.eq_false_or_eq_true ((s[a].toNat : Int) == 37) with k13 | k13
    · go_enter Tryd.func26, Tryd.ntmps26
      go_wp2
      go_ret
      exact ⟨yav (by rw [HS.out, if_pos (ybg s[a] 37 (by decide) (by decide) k13)]; rfl), rfl⟩
    rcases Bool.eq_false_or_eq_true ((s[a].toNat : Int) == 33) with k14 | k14
    · go_enter Tryd.func26, Tryd.ntmps26
      go_wp2
      go_ret
      exact ⟨yav (by rw [HS.out, if_pos (ybg s[a] 33 (by decide) (by decide) k14)]; rfl), rfl⟩
    · go_enter Tryd.func26, Tryd.ntmps26
      go_wp2
      go_ret
      exact ⟨yav (by rw [HS.out, if_neg (by rw [sign1_no s[a] k0 k1 k2 k3 k4 k5 k6 k7 k8 k9 k10 k11 k12 k13 k14]; decide)]; rfl), rfl⟩
  · have HS := Lib.hid (rsign_one s a h0 h2)
    rcases Bool.eq_false_or_eq_true ((s[a].toNat : Int) == 59) with k0 | k0
    · go_enter Tryd.func26, Tryd.ntmps26
      go_wp2
      go_ret
      exact ⟨yav (by rw [HS.out, if_pos (ybg s[a] 59 (by decide) (by decide) k0)]; rfl), rfl⟩
    rcases Bool.eq_false_or_eq_true ((s[a].toNat : Int) == 58) with k1 | k1
    · go_enter Tryd.func26, Tryd.ntmps26
      go_wp2
      go_ret
      exact ⟨yav (by rw [HS.out, if_pos (ybg s[a] 58 (by decide) (by decide) k1)]; rfl), rfl⟩
    rcases Bool.eq_false_or_eq_true ((s[a].toNat : Int) == 44) with k2 | k2
    · go_enter Tryd.func26, Tryd.ntmps26
      go_wp2
      go_ret
      exact ⟨yav (by rw [HS.out, if_pos (ybg s[a] 44 (by decide) (by decide) k2)]; rfl), rfl⟩
    rcases Bool.eq_false_or_eq_true ((s[a].toNat : Int) == 40) with k3 | k3
    · go_enter Tryd.func26, Tryd.ntmps26
      go_wp2
      go_ret
      exact ⟨yav (by rw [HS.out, if_pos (ybg s[a] 40 (by decide) (by decide) k3)]; rfl), rfl⟩
    rcases Bool.eq_false_or_eq_true ((s[a].toNat : Int) == 41) with k4 | k4
    · go_enter Tryd.func26, Tryd.ntmps26
      go_wp2
      go_ret
      exact ⟨yav (by rw [HS.out, if_pos (ybg s[a] 41 (by decide) (by decide) k4)]; rfl), rfl⟩
    rcases Bool.eq_false_or_eq_true ((s[a].toNat : Int) == 46) with k5 | k5
    · go_enter Tryd.func26, Tryd.ntmps26
      go_wp2
      go_ret
      exact ⟨yav (by rw [HS.out, if_pos (ybg s[a] 46 (by decide) (by decide) k5)]; rfl), rfl⟩
    rcases Bool.eq_false_or_eq_true ((s[a].toNat : Int) == 63) with k6 | k6
    · go_enter Tryd.func26, Tryd.ntmps26
      go_wp2
      go_ret
      exact ⟨yav (by rw [HS.out, if_pos (ybg s[a] 63 (by decide) (by decide) k6)]; rfl), rfl⟩
    rcases Bool.eq_false_or_eq_true ((s[a].toNat : Int) == 60) with k7 | k7
    · go_enter Tryd.func26, Tryd.ntmps26
      go_wp2
      go_ret
      exact ⟨yav (by rw [HS.out, if_pos (ybg s[a] 60 (by decide) (by decide) k7)]; rfl), rfl⟩
    rcases Bool.eq_false_or_eq_true ((s[a].toNat : Int) == 62) with k8 | k8
    · go_enter Tryd.func26, Tryd.ntmps26
      go_wp2
      go_ret
      exact ⟨yav (by rw [HS.out, if_pos (ybg s[a] 62 (by decide) (by decide) k8)]; rfl), rfl⟩
    rcases Bool.eq_false_or_eq_true ((s[a].toNat : Int) == 43) with k9 | k9
    · go_enter Tryd.func26, Tryd.ntmps26
      go_wp2
      go_ret
      exact ⟨yav (by rw [HS.out, if_pos (ybg s[a] 43 (by decide) (by decide) k9)]; rfl), rfl⟩
    rcases Bool.eq_false_or_eq_true ((s[a].toNat : Int) == 45) with k10 | k10
    · go_enter Tryd.func26, Tryd.ntmps26
      go_wp2
      go_ret
      exact ⟨yav (by rw [HS.out, if_pos (ybg s[a] 45 (by decide) (by decide) k10)]; rfl), rfl⟩
    rcases Bool.eq_false_or_eq_true ((s[a].toNat : Int) == 42) with k11 | k11
    · go_enter Tryd.func26, Tryd.ntmps26
      go_wp2
      go_ret
      exact ⟨yav (by rw [HS.out, if_pos (ybg s[a] 42 (by decide) (by decide) k11)]; rfl), rfl⟩
    rcases Bool.eq_false_or_eq_true ((s[a].toNat : Int) == 47) with k12 | k12
    · go_enter Tryd.func26, Tryd.ntmps26
      go_wp2
      go_ret
      exact ⟨yav (by rw [HS.out, if_pos (ybg s[a] 47 (by decide) (by decide) k12)]; rfl), rfl⟩
    rcases Bool.eq_false_or_eq_true ((s[a].toNat : Int) == 37) with k13 | k13
    · go_enter Tryd.func26, Tryd.ntmps26
      go_wp2
      go_ret
      exact ⟨yav (by rw [HS.out, if_pos (ybg s[a] 37 (by decide) (by decide) k13)]; rfl), rfl⟩
    rcases Bool.eq_false_or_eq_true ((s[a].toNat : Int) == 33) with k14 | k14
    · go_enter Tryd.func26, Tryd.ntmps26
      go_wp2
      go_ret
      exact ⟨yav (by rw [HS.out, if_pos (ybg s[a] 33 (by decide) (by decide) k14)]; rfl), rfl⟩
    · go_enter Tryd.func26, Tryd.ntmps26
      go_wp2
      go_ret
      exact ⟨yav (by rw [HS.out, if_neg (by rw [sign1_no s[a] k0 k1 k2 k3 k4 k5 k6 k7 k8 k9 k10 k11 k12 k13 k14]; decide)]; rfl), rfl⟩
end Go.Proofs.YtcpgpiabeimefaaDoor
set_option maxRecDepth 100000
namespace Go.Proofs.YtcpgpiabeimefaaDoor
open Go.RowKit

set_option maxHeartbeats 1000000 in
theorem while_word (s : ByteArray) (a : Nat) (pa pt : Addr) (w : World) (hs : s.size ≤ 20000) (ha : a ≤ s.size) (hpa : w.cell? pa = some (.int .i64 a)) (hpt : w.cell? pt = some (.string s)) :
    Calls Tryd.prog 49 #[.func (.func 46) #[] #[], .pointer (some pa), .pointer (some pt)] w fun e w' => e = .returned (.int .i64 (yct yda s a)) ∧ w = w' := by
  go_enter Tryd.func49, Tryd.ntmps49
  go_wp2
  go_loop [5] (fun i => ∃ k : Nat, k ≤ s.size ∧ i = .int .i64 k ∧ Hid (yct yda s a = yct yda s k)) (fun i => s.size - (intOf i).toNat)
  case atStart => exact ⟨a, ha, rfl, rfl⟩
  case round =>
    obtain ⟨k, hk, rfl, hk2⟩ := hrel
    by_cases hlt : k < s.size
    · go_wp2_with (go_at_call 46; refine (inWord_any _ _).mono ?_; rintro e w' ⟨rfl, rfl⟩)
      · exact ⟨⟨k + 1, by omega, by go_num, hk2.out.trans (runTo_yes _ s k hlt (by assumption))⟩, by simp [intOf]; omega⟩
      · go_ret
        rw [hk2.out, runTo_no _ s k hlt (by assumption)]
        exact ⟨rfl, rfl⟩
    · go_wp2
      go_ret
      rw [hk2.out, runTo_end _ _ _ (by omega)]
      exact ⟨rfl, rfl⟩
set_option maxHeartbeats 1000000 in
theorem while_digit (s : ByteArray) (a : Nat) (pa pt : Addr) (w : World) (hs : s.size ≤ 20000) (ha : a ≤ s.size) (hpa : w.cell? pa = some (.int .i64 a)) (hpt : w.cell? pt = some (.string s)) :
    Calls Tryd.prog 49 #[.func (.func 50) #[] #[], .pointer (some pa), .pointer (some pt)] w fun e w' => e = .returned (.int .i64 (yct yba s a)) ∧ w = w' := by
  go_enter Tryd.func49, Tryd.ntmps49
  go_wp2
  go_loop [5] (fun i => ∃ k : Nat, k ≤ s.size ∧ i = .int .i64 k ∧ Hid (yct yba s a = yct yba s k)) (fun i => s.size - (intOf i).toNat)
  case atStart => exact ⟨a, ha, rfl, rfl⟩
  case round =>
    obtain ⟨k, hk, rfl, hk2⟩ := hrel
    by_cases hlt : k < s.size
    · go_wp2_with (go_at_call 50; refine (digit_any _ _).mono ?_; rintro e w' ⟨rfl, rfl⟩)
      · exact ⟨⟨k + 1, by omega, by go_num, hk2.out.trans (runTo_yes _ s k hlt (by assumption))⟩, by simp [intOf]; omega⟩
      · go_ret
        rw [hk2.out, runTo_no _ s k hlt (by assumption)]
        exact ⟨rfl, rfl⟩
    · go_wp2
      go_ret
      rw [hk2.out, runTo_end _ _ _ (by omega)]
      exact ⟨rfl, rfl⟩

def NextRet (s : ByteArray) (a : Nat) (w : World) (e : Ending) (w' : World) : Prop :=
  Below w.heap.size w w' ∧
  ((∃ k n v : Nat, tokL (yah s a) = .ok (k, n, v) ∧ e = .returned (.tuple #[.agg #[.int .i64 k, .int .i64 a, .int .i64 ((a + n : Nat) : Int), .int .i64 v], .int .i64 0])) ∨
   (∃ x : Nat, tokL (yah s a) = .error x ∧ 1 ≤ x ∧ x ≤ 5 ∧ e = .returned (.tuple #[.agg #[.int .i64 0, .int .i64 0, .int .i64 0, .int .i64 0], .int .i64 x])))

theorem tok_word_bad (s : ByteArray) (a : Nat) (h : a < s.size) (hl : ycb s[a] = true) (h24 : 24 < yct yda s a - a) : tokL (yah s a) = .error 5 := by
  unfold yct at h24
  rw [ybf s a h] at *
  rw [tokL, if_pos hl, if_pos (by omega)]
theorem tok_word (s : ByteArray) (a : Nat) (h : a < s.size) (hl : ycb s[a] = true) (h24 : ¬ 24 < yct yda s a - a) : tokL (yah s a) = .ok (1, yct yda s a - a, 0) := by
  unfold yct at *
  rw [ybf s a h] at *
  rw [tokL, if_pos hl, if_neg (by omega), show a + runL yda (s[a] :: yah s (a + 1)) - a = runL yda (s[a] :: yah s (a + 1)) by omega]
theorem run_eq (p : UInt8 → Bool) (s : ByteArray) (a : Nat) : yct p s a - a = runL p (yah s a) := by unfold yct; omega
theorem tok_num_bad (s : ByteArray) (a : Nat) (h : a < s.size) (hl : ycb s[a] = false) (hd : yba s[a] = true) (hn : yfi (yah (s.extract a (yct yba s a)) 0) = none) : tokL (yah s a) = .error 2 := by
  unfold yah at hn
  rw [List.drop_zero, Lib.extract_data, run_eq] at hn
  rw [show s.data.toList.drop a = yah s a from rfl] at hn
  rw [ybf s a h] at *
  simp only [tokL]
  rw [if_neg (by simp [hl]), if_pos hd, hn]
theorem tok_num (s : ByteArray) (a v : Nat) (h : a < s.size) (hl : ycb s[a] = false) (hd : yba s[a] = true) (hn : yfi (yah (s.extract a (yct yba s a)) 0) = some v) : tokL (yah s a) = .ok (2, yct yba s a - a, v) := by
  rw [run_eq]
  unfold yah at hn
  rw [List.drop_zero, Lib.extract_data, run_eq] at hn
  rw [show s.data.toList.drop a = yah s a from rfl] at hn
  rw [ybf s a h] at *
  simp only [tokL]
  rw [if_neg (by simp [hl]), if_pos hd, hn]
theorem tok_sign_bad (s : ByteArray) (a : Nat) (h : a < s.size) (hl : ycb s[a] = false) (hd : yba s[a] = false) (hn : ydd (yah s a) = 0) : tokL (yah s a) = .error 4 := by
  rw [ybf s a h] at *
  rw [tokL, if_neg (by simp [hl]), if_neg (by simp [hd]), if_pos hn]
theorem tok_sign (s : ByteArray) (a : Nat) (h : a < s.size) (hl : ycb s[a] = false) (hd : yba s[a] = false) (hn : ¬ ydd (yah s a) = 0) : tokL (yah s a) = .ok (3, ydd (yah s a), 0) := by
  rw [ybf s a h] at *
  rw [tokL, if_neg (by simp [hl]), if_neg (by simp [hd]), if_neg hn]
theorem digits_of (s : ByteArray) (a : Nat) : ∀ c ∈ yah (s.extract a (yct yba s a)) 0, yba c = true := by
  unfold yah
  rw [List.drop_zero, Lib.extract_data, run_eq]
  exact run_all yba _
theorem size_extract (s : ByteArray) (a b : Nat) (h : b ≤ s.size) : (s.extract a b).size = b - a := by
  rw [ByteArray.size_extract]; omega
theorem bytes_tail (s : ByteArray) (a : Nat) : yah (s.extract a s.size) 0 = yah s a := by
  unfold yah
  rw [List.drop_zero, Lib.extract_data, List.take_of_length_le]
  rw [List.length_drop, ← Lib.size_eq]; exact Nat.le_refl _

theorem below3 (w : World) (o1 o2 o3 : Obj) : Below w.heap.size w (((w.alloc o1).alloc o2).alloc o3) :=
  (((Below.refl _ _).alloc (Nat.le_refl _) _).alloc (by simp) _).alloc (by simp; omega) _

set_option maxHeartbeats 1000000 in
theorem next_any (s : ByteArray) (a : Nat) (w : World) (hs : s.size ≤ 20000) (ha : a < s.size) :
    Calls Tryd.prog 30 #[.string s, .int .i64 a] w (NextRet s a w) := by
  cases hl : ycb s[a]
  · cases hd : yba s[a]
    · have HB := Lib.hid (bytes_tail s a)
      have hz : 0 < (s.extract a s.size).size := by rw [size_extract _ _ _ (Nat.le_refl _)]; omega
      have hz2 : (s.extract a s.size).size ≤ 20000 := by rw [size_extract _ _ _ (Nat.le_refl _)]; omega
      have hsl := signL_le (yah s a)
      rw [ybd] at hsl
      go_enter Tryd.func30, Tryd.ntmps30
      go_wp2_with (first | (go_at_call 45; refine (letter_any _ _).mono ?_; rintro e w' ⟨rfl, rfl⟩) | (go_at_call 50; refine (digit_any _ _).mono ?_; rintro e w' ⟨rfl, rfl⟩) | (go_at_call 52; refine (sign_any _ _ hz2 hz).mono ?_; rintro e w' ⟨rfl, hbl⟩; rw [HB.out]; obtain ⟨hcl, hfz⟩ := bcell hbl; have hsz := hbl.size; simp at hsz))
      all_goals have hB : Below w.heap.size w w' := (below3 _ _ _ _).trans (hbl.mono (by simp; omega))
      · have h0 : ydd (yah s a) = 0 := by
          have : ((ydd (yah s a) : Int) == 0) = true := by assumption
          simp at this; exact this
        refine bodyPost_ret (v := .tuple #[.agg #[.int .i64 0, .int .i64 0, .int .i64 0, .int .i64 0], .int .i64 4]) (by simp [results, Tryd.results30, go_sem, hcl]) rfl ⟨?_, .inr ⟨4, tok_sign_bad s a ha hl hd h0, by omega, by omega, rfl⟩⟩
        repeat (first | exact hB | refine Below.setCell ?_ (by simp; omega) _)
      · have h0 : ¬ ydd (yah s a) = 0 := by
          have : ((ydd (yah s a) : Int) == 0) = false := by assumption
          simp at this; exact this
        refine bodyPost_ret (v := .tuple #[.agg #[.int .i64 3, .int .i64 a, .int .i64 ((a + ydd (yah s a) : Nat) : Int), .int .i64 0], .int .i64 0]) (by simp [results, Tryd.results30, go_sem, hcl]) rfl ⟨?_, .inl ⟨3, _, 0, tok_sign s a ha hl hd h0, rfl⟩⟩
        repeat (first | exact hB | refine Below.setCell ?_ (by simp; omega) _)
    · have hb := runTo_bd yba s a (by omega)
      have hb1 := hb.1
      have hb2 := hb.2
      clear hb
      have hp := runTo_pos yba s a ha hd
      have hz : 0 < (s.extract a (yct yba s a)).size := by rw [size_extract _ _ _ hb2]; omega
      have hz2 : (s.extract a (yct yba s a)).size ≤ 20000 := by rw [size_extract _ _ _ hb2]; omega
      have HD := Lib.hid (digits_of s a)
      go_enter Tryd.func30, Tryd.ntmps30
      go_wp2_with (first | (go_at_call 45; refine (letter_any _ _).mono ?_; rintro e w' ⟨rfl, rfl⟩) | (go_at_call 50; refine (digit_any _ _).mono ?_; rintro e w' ⟨rfl, rfl⟩) | (go_at_call 49; refine (while_digit s a _ _ _ hs (by omega) (by go_simp) (by go_simp)).mono ?_; rintro e w' ⟨rfl, rfl⟩) | (go_at_call 51; refine (number_any _ _ hz2 hz HD).mono ?_; rintro e w' ⟨rfl, ⟨v, hv, rfl⟩ | ⟨v, hv, rfl⟩⟩ <;> have HV := Lib.hid hv <;> clear hv))
      · refine bodyPost_ret (v := .tuple #[.agg #[.int .i64 2, .int .i64 a, .int .i64 (yct yba s a), .int .i64 v], .int .i64 0]) (by simp [results, Tryd.results30, go_sem]) rfl ⟨below3 _ _ _ _, .inl ⟨2, _, v, tok_num s a v ha hl hd HV.out, ?_⟩⟩
        rw [show a + (yct yba s a - a) = yct yba s a by omega]; rfl
      · refine bodyPost_ret (v := .tuple #[.agg #[.int .i64 0, .int .i64 0, .int .i64 0, .int .i64 0], .int .i64 2]) (by simp [results, Tryd.results30, go_sem]) rfl ⟨below3 _ _ _ _, .inr ⟨2, tok_num_bad s a ha hl hd HV.out, by omega, by omega, rfl⟩⟩
  · have hb := runTo_bd yda s a (by omega)
    have hb1 := hb.1
    have hb2 := hb.2
    clear hb
    go_enter Tryd.func30, Tryd.ntmps30
    go_wp2_with (first | (go_at_call 45; refine (letter_any _ _).mono ?_; rintro e w' ⟨rfl, rfl⟩) | (go_at_call 49; refine (while_word s a _ _ _ hs (by omega) (by go_simp) (by go_simp)).mono ?_; rintro e w' ⟨rfl, rfl⟩))
    · refine bodyPost_ret (v := .tuple #[.agg #[.int .i64 0, .int .i64 0, .int .i64 0, .int .i64 0], .int .i64 5]) (by simp [results, Tryd.results30, go_sem]) rfl ⟨below3 _ _ _ _, .inr ⟨5, tok_word_bad s a ha hl (by omega), by omega, by omega, rfl⟩⟩
    · refine bodyPost_ret (v := .tuple #[.agg #[.int .i64 1, .int .i64 a, .int .i64 (yct yda s a), .int .i64 0], .int .i64 0]) (by simp [results, Tryd.results30, go_sem]) rfl ⟨below3 _ _ _ _, .inl ⟨1, _, 0, tok_word s a ha hl (by omega), ?_⟩⟩
      rw [show a + (yct yda s a - a) = yct yda s a by omega]; rfl
end Go.Proofs.YtcpgpiabeimefaaDoor
set_option maxRecDepth 100000
namespace Go.Proofs.YtcpgpiabeimefaaDoor
open Go.RowKit

set_option maxHeartbeats 1000000 in
theorem rtoken_word (s : ByteArray) (a : Nat) (w : World) (hs : s.size ≤ 20000) (ha : a < s.size) (hl : ycb s[a] = true) :
    Calls Tryd.prog 10 #[.string s, .int .i64 a] w (NextRet s a w) := by
  have HW : Hid (yct yda s a = yct yda s (a + 1)) := Lib.hid (runTo_yes yda s a ha (by simp [yda, hl]))
  go_enter Tryd.func10, Tryd.ntmps10
  go_wp2_with (first | (go_at_call 22; refine (rletter_any _ _).mono ?_; rintro e w' ⟨rfl, rfl⟩))
  go_loopg [] (s.size - (a + 1)) (fun m wr => ∃ k : Nat, a < k ∧ k ≤ s.size ∧ Hid (m = s.size - k) ∧ Hid (yct yda s a = yct yda s k) ∧ wr = (w.alloc (.cells #[.int .i64 0, .int .i64 0, .int .i64 0, .int .i64 0] 39)).alloc (.cells #[.int .i64 1, .int .i64 a, .int .i64 k, .int .i64 0] 39))
  case atStart => exact ⟨a + 1, by omega, by omega, rfl, HW, rfl⟩
  case round =>
    obtain ⟨k, hk, hk', hm, hk2, rfl⟩ := hrel
    by_cases hlt : k < s.size
    · cases hp : yda s[k]
      · have HE : Hid (yct yda s a = k) := Lib.hid (hk2.out.trans (runTo_no _ s k hlt hp))
        by_cases h24 : 24 < k - a
        · go_wp2_with (first | (go_at_call 23; refine (rinner_any _ _).mono ?_; rintro e w' ⟨rfl, rfl⟩))
          refine bodyPost_ret (v := .tuple #[.agg #[.int .i64 0, .int .i64 0, .int .i64 0, .int .i64 0], .int .i64 5]) (by simp [results, Tryd.results10, go_sem]) rfl ⟨?_, .inr ⟨5, tok_word_bad s a ha hl (by rw [HE.out]; omega), by omega, by omega, rfl⟩⟩
          repeat (first | exact Below.refl _ _ | refine Below.setCell ?_ (by simp) _ | refine Below.alloc ?_ (by simp) _)
        · go_wp2_with (first | (go_at_call 23; refine (rinner_any _ _).mono ?_; rintro e w' ⟨rfl, rfl⟩))
          refine bodyPost_ret (v := .tuple #[.agg #[.int .i64 1, .int .i64 a, .int .i64 k, .int .i64 0], .int .i64 0]) (by simp [results, Tryd.results10, go_sem]) rfl ⟨?_, .inl ⟨1, _, 0, tok_word s a ha hl (by rw [HE.out]; omega), ?_⟩⟩
          · repeat (first | exact Below.refl _ _ | refine Below.setCell ?_ (by simp) _ | refine Below.alloc ?_ (by simp) _)
          · rw [HE.out, show a + (k - a) = k by omega]; rfl
      · go_wp2_with (first | (go_at_call 23; refine (rinner_any _ _).mono ?_; rintro e w' ⟨rfl, rfl⟩))
        go_roundg (s.size - (k + 1))
        case measure => have := hm.out; omega
        case rel => exact ⟨k + 1, by omega, by omega, rfl, hk2.out.trans (runTo_yes _ s k hlt hp), by go_num⟩
    · have HE : Hid (yct yda s a = k) := Lib.hid (hk2.out.trans (runTo_end _ s k (by omega)))
      by_cases h24 : 24 < k - a
      · go_wp2_with (first | (go_at_call 23; refine (rinner_any _ _).mono ?_; rintro e w' ⟨rfl, rfl⟩))
        refine bodyPost_ret (v := .tuple #[.agg #[.int .i64 0, .int .i64 0, .int .i64 0, .int .i64 0], .int .i64 5]) (by simp [results, Tryd.results10, go_sem]) rfl ⟨?_, .inr ⟨5, tok_word_bad s a ha hl (by rw [HE.out]; omega), by omega, by omega, rfl⟩⟩
        repeat (first | exact Below.refl _ _ | refine Below.setCell ?_ (by simp) _ | refine Below.alloc ?_ (by simp) _)
      · go_wp2_with (first | (go_at_call 23; refine (rinner_any _ _).mono ?_; rintro e w' ⟨rfl, rfl⟩))
        refine bodyPost_ret (v := .tuple #[.agg #[.int .i64 1, .int .i64 a, .int .i64 k, .int .i64 0], .int .i64 0]) (by simp [results, Tryd.results10, go_sem]) rfl ⟨?_, .inl ⟨1, _, 0, tok_word s a ha hl (by rw [HE.out]; omega), ?_⟩⟩
        · repeat (first | exact Below.refl _ _ | refine Below.setCell ?_ (by simp) _ | refine Below.alloc ?_ (by simp) _)
        · rw [HE.out, show a + (k - a) = k by omega]; rfl

set_option maxHeartbeats 1000000 in
theorem rtoken_num (s : ByteArray) (a : Nat) (w : World) (hs : s.size ≤ 20000) (ha : a < s.size) (hl : ycb s[a] = false) (hd : yba s[a] = true) :
    Calls Tryd.prog 10 #[.string s, .int .i64 a] w (NextRet s a w) := by
  have HW : Hid (yct yba s a = yct yba s (a + 1)) := Lib.hid (runTo_yes yba s a ha hd)
  go_enter Tryd.func10, Tryd.ntmps10
  go_wp2_with (first | (go_at_call 22; refine (rletter_any _ _).mono ?_; rintro e w' ⟨rfl, rfl⟩) | (go_at_call 24; refine (rdigit_any _ _).mono ?_; rintro e w' ⟨rfl, rfl⟩))
  go_loopg [] (s.size - (a + 1)) (fun m wr => ∃ k : Nat, a < k ∧ k ≤ s.size ∧ Hid (m = s.size - k) ∧ Hid (yct yba s a = yct yba s k) ∧ wr = (w.alloc (.cells #[.int .i64 0, .int .i64 0, .int .i64 0, .int .i64 0] 39)).alloc (.cells #[.int .i64 2, .int .i64 a, .int .i64 k, .int .i64 0] 39))
  case atStart => exact ⟨a + 1, by omega, by omega, rfl, HW, rfl⟩
  case round =>
    obtain ⟨k, hk, hk', hm, hk2, rfl⟩ := hrel
    by_cases hlt : k < s.size
    · cases hp : yba s[k]
      · have HE : Hid (yct yba s a = k) := Lib.hid (hk2.out.trans (runTo_no _ s k hlt hp))
        have hz : 0 < (s.extract a k).size := by rw [size_extract _ _ _ (by omega)]; omega
        have hz2 : (s.extract a k).size ≤ 20000 := by rw [size_extract _ _ _ (by omega)]; omega
        have HD : Hid (∀ c ∈ yah (s.extract a k) 0, yba c = true) := by have := digits_of s a; rw [HE.out] at this; exact this
        go_wp2_with (first | (go_at_call 24; refine (rdigit_any _ _).mono ?_; rintro e w' ⟨rfl, rfl⟩) | (go_at_call 25; refine (rnumber_any _ _ hz2 hz HD).mono ?_; rintro e w' ⟨rfl, ⟨v, hv, rfl⟩ | ⟨v, hv, rfl⟩⟩ <;> have HV := Lib.hid hv <;> clear hv))
        · have hn := tok_num s a v ha hl hd (by rw [HE.out]; exact HV.out)
          refine bodyPost_ret (v := .tuple #[.agg #[.int .i64 2, .int .i64 a, .int .i64 k, .int .i64 v], .int .i64 0]) (by simp [results, Tryd.results10, go_sem]) rfl ⟨?_, .inl ⟨2, _, v, hn, ?_⟩⟩
          · repeat (first | exact Below.refl _ _ | refine Below.setCell ?_ (by simp) _ | refine Below.alloc ?_ (by simp) _)
          · rw [HE.out, show a + (k - a) = k by omega]; rfl
        · have hn := tok_num_bad s a ha hl hd (by rw [HE.out]; exact HV.out)
          refine bodyPost_ret (v := .tuple #[.agg #[.int .i64 0, .int .i64 0, .int .i64 0, .int .i64 0], .int .i64 2]) (by simp [results, Tryd.results10, go_sem]) rfl ⟨?_, .inr ⟨2, hn, by omega, by omega, rfl⟩⟩
          repeat (first | exact Below.refl _ _ | refine Below.setCell ?_ (by simp) _ | refine Below.alloc ?_ (by simp) _)
      · go_wp2_with (first | (go_at_call 24; refine (rdigit_any _ _).mono ?_; rintro e w' ⟨rfl, rfl⟩))
        go_roundg (s.size - (k + 1))
        case measure => have := hm.out; omega
        case rel => exact ⟨k + 1, by omega, by omega, rfl, hk2.out.trans (runTo_yes _ s k hlt hp), by go_num⟩
    · have HE : Hid (yct yba s a = k) := Lib.hid (hk2.out.trans (runTo_end _ s k (by omega)))
      have hz : 0 < (s.extract a k).size := by rw [size_extract _ _ _ (by omega)]; omega
      have hz2 : (s.extract a k).size ≤ 20000 := by rw [size_extract _ _ _ (by omega)]; omega
      have HD : Hid (∀ c ∈ yah (s.extract a k) 0, yba c = true) := by have := digits_of s a; rw [HE.out] at this; exact this
      go_wp2_with (first | (go_at_call 24; refine (rdigit_any _ _).mono ?_; rintro e w' ⟨rfl, rfl⟩) | (go_at_call 25; refine (rnumber_any _ _ hz2 hz HD).mono ?_; rintro e w' ⟨rfl, ⟨v, hv, rfl⟩ | ⟨v, hv, rfl⟩⟩ <;> have HV := Lib.hid hv <;> clear hv))
      · have hn := tok_num s a v ha hl hd (by rw [HE.out]; exact HV.out)
        refine bodyPost_ret (v := .tuple #[.agg #[.int .i64 2, .int .i64 a, .int .i64 k, .int .i64 v], .int .i64 0]) (by simp [results, Tryd.results10, go_sem]) rfl ⟨?_, .inl ⟨2, _, v, hn, ?_⟩⟩
        · repeat (first | exact Below.refl _ _ | refine Below.setCell ?_ (by simp) _ | refine Below.alloc ?_ (by simp) _)
        · rw [HE.out, show a + (k - a) = k by omega]; rfl
      · have hn := tok_num_bad s a ha hl hd (by rw [HE.out]; exact HV.out)
        refine bodyPost_ret (v := .tuple #[.agg #[.int .i64 0, .int .i64 0, .int .i64 0, .int .i64 0], .int .i64 2]) (by simp [results, Tryd.results10, go_sem]) rfl ⟨?_, .inr ⟨2, hn, by omega, by omega, rfl⟩⟩
        repeat (first | exact Below.refl _ _ | refine Below.setCell ?_ (by simp) _ | refine Below.alloc ?_ (by simp) _)

set_option maxHeartbeats 1000000 in
theorem rtoken_sign (s : ByteArray) (a : Nat) (w : World) (hs : s.size ≤ 20000) (ha : a < s.size) (hl : ycb s[a] = false) (hd : yba s[a] = false) :
    Calls Tryd.prog 10 #[.string s, .int .i64 a] w (NextRet s a w) := by
  have hsl := signL_le (yah s a)
  rw [ybd] at hsl
  by_cases h0 : ydd (yah s a) = 0
  · have h1 : ¬ 0 < ydd (yah s a) := by omega
    have H0 := Lib.hid h0
    clear h0
    go_enter Tryd.func10, Tryd.ntmps10
    go_wp2_with (first | (go_at_call 22; refine (rletter_any _ _).mono ?_; rintro e w' ⟨rfl, rfl⟩) | (go_at_call 24; refine (rdigit_any _ _).mono ?_; rintro e w' ⟨rfl, rfl⟩) | (go_at_call 26; refine (rsign_any s a _ hs ha).mono ?_; rintro e w' ⟨rfl, rfl⟩))
    refine bodyPost_ret (v := .tuple #[.agg #[.int .i64 0, .int .i64 0, .int .i64 0, .int .i64 0], .int .i64 4]) (by simp [results, Tryd.results10, go_sem]) rfl ⟨?_, .inr ⟨4, tok_sign_bad s a ha hl hd H0.out, by omega, by omega, rfl⟩⟩
    repeat (first | exact Below.refl _ _ | refine Below.setCell ?_ (by simp) _ | refine Below.alloc ?_ (by simp) _)
  · have h1 : 0 < ydd (yah s a) := by omega
    have H0 := Lib.hid h0
    clear h0
    go_enter Tryd.func10, Tryd.ntmps10
    go_wp2_with (first | (go_at_call 22; refine (rletter_any _ _).mono ?_; rintro e w' ⟨rfl, rfl⟩) | (go_at_call 24; refine (rdigit_any _ _).mono ?_; rintro e w' ⟨rfl, rfl⟩) | (go_at_call 26; refine (rsign_any s a _ hs ha).mono ?_; rintro e w' ⟨rfl, rfl⟩))
    refine bodyPost_ret (v := .tuple #[.agg #[.int .i64 3, .int .i64 a, .int .i64 ((a + ydd (yah s a) : Nat) : Int), .int .i64 0], .int .i64 0]) (by simp [results, Tryd.results10, go_sem]) rfl ⟨?_, .inl ⟨3, _, 0, tok_sign s a ha hl hd H0.out, ?_⟩⟩
    · repeat (first | exact Below.refl _ _ | refine Below.setCell ?_ (by simp) _ | refine Below.alloc ?_ (by simp) _)
    · rfl

theorem rtoken_any (s : ByteArray) (a : Nat) (w : World) (hs : s.size ≤ 20000) (ha : a < s.size) :
    Calls Tryd.prog 10 #[.string s, .int .i64 a] w (NextRet s a w) := by
  cases hl : ycb s[a]
  · cases hd : yba s[a]
    · exact rtoken_sign s a w hs ha hl hd
    · exact rtoken_num s a w hs ha hl hd
  · exact rtoken_word s a w hs ha hl
end Go.Proofs.YtcpgpiabeimefaaDoor
