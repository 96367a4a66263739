/- Part 21 of the texts under ExprFormats,ExprBracketsEverything: joined, with what it needs alone. -/
import Derived.Test.YtcpgpiabeimefaaGreatDoorR20
set_option linter.unusedVariables false
set_option maxRecDepth 100000
set_option maxHeartbeats 4000000
namespace Go.Proofs.YtcpgpiabeimefaaGreatDoor
open Go.RowKit
section
variable {es : List Tm} {names : List Bs}
theorem word_agg {op : Int} (h : 20 ≤ op ∧ op ≤ 29) : wordL[op.toNat]? = some (ykv op) ∧ (ykv op).length ≤ 6 := by
  obtain ⟨k, rfl⟩ := yhb (lo := 20) (n := 10) h.1 (by omega)
  revert k
  decide
theorem word_bin {op : Int} (h : 30 ≤ op ∧ op ≤ 42) : wordL[op.toNat]? = some (ykw op) ∧ (ykw op).length ≤ 2 := by
  obtain ⟨k, rfl⟩ := yhb (lo := 30) (n := 13) h.1 (by omega)
  revert k
  decide
theorem text_un {t : Tm} {a : Ex} (hes : es.length ≤ 1000) (hn : ∀ w ∈ names, w.length ≤ 24) (ht : ar t.1 = 1) (hE : a.ok) (ha : ∀ x ∈ a.fl, yep names.length x = true) (iha : yjc es names a) : yjc es names (.un t a) := by
  intro k hat
  have hk := hat.head rfl
  have hbd := hat.bound
  simp only [Ex.fl, List.length_cons] at hbd
  have hlt : k < es.length := (List.getElem?_eq_some_iff.1 hk).1
  have hata : AtE es (k + 1) a := (AtE.tail (y := []) (by have h : (t :: a.fl) <+: es.drop k := hat; simpa using h)).1
  have hop := ar_un ht
  have hbl := ykp hn hE ha (ybf 6 a)
  have hbl0 := ykp hn hE ha false
  simp only [brT] at hbl0
  have cb := bracketed_con hn hes hE ha iha (k + 1) hata 6 7 rfl
  have ct := iha (k + 1) hata
  by_cases h18 : t.1 = 18
  · have hw := word_con t.1 (by omega) [45] (by rw [h18]; rfl)
    refine ybt Tryz.func35 rfl rfl Tryz.ntmps35 Tryz.results35 rfl rfl ?_
    (repeat (first | refine zI ?_ | refine zL ?_ | refine zC ?_ | refine yaf ?_ | refine yae ?_ | refine zR ?_ | refine zD ?_ | refine zK ?_ | refine zB ?_ | refine zA ?_ | refine zS ?_ | refine zU ?_ | refine zV ?_ | refine zF ?_ | with_reducible refine yab ?_ | with_reducible refine yad ?_ | refine yaa ?_ | refine yac ?_ | refine yag ?_ | refine zT ?_ | refine zE ?_ | refine zX ?_ | refine ybd tok rfl rfl rfl (by omega) (ycb hk) rfl rfl ?_ | refine yal rfl rfl (rlevel_con t.1 (by omega)) rfl rfl ?_))
    iterate 3 (refine yaq rfl (fun h9 => absurd h9 (by simp; omega)) (fun _ => ?_); (repeat (first | refine zI ?_ | refine zL ?_ | refine zC ?_ | refine yaf ?_ | refine yae ?_ | refine zR ?_ | refine zD ?_ | refine zK ?_ | refine zB ?_ | refine zA ?_ | refine zS ?_ | refine zU ?_ | refine zV ?_ | refine zF ?_ | with_reducible refine yab ?_ | with_reducible refine yad ?_ | refine yaa ?_ | refine yac ?_ | refine yag ?_ | refine zT ?_ | refine zE ?_ | refine zX ?_)))
    refine ych 51 rfl (fun _ => ?_) (fun h9 => absurd h9 (by simp; omega))
    (repeat (first | refine zI ?_ | refine zL ?_ | refine zC ?_ | refine yaf ?_ | refine yae ?_ | refine zR ?_ | refine zD ?_ | refine zK ?_ | refine zB ?_ | refine zA ?_ | refine zS ?_ | refine zU ?_ | refine zV ?_ | refine zF ?_ | with_reducible refine yab ?_ | with_reducible refine yad ?_ | refine yaa ?_ | refine yac ?_ | refine yag ?_ | refine zT ?_ | refine zE ?_ | refine zX ?_ | refine yal rfl rfl hw rfl rfl ?_ | refine yal rfl rfl cb rfl rfl ?_ | refine ydi rfl rfl (by simp only [List.length_cons, List.length_nil]; omega) rfl rfl ?_))
    refine yau ?_; refine ⟨_, rfl, ?_⟩
    exact yem (by simp [yax, h18])
  by_cases h19 : t.1 = 19
  · have hw := word_con t.1 (by omega) [33] (by rw [h19]; rfl)
    refine ybt Tryz.func35 rfl rfl Tryz.ntmps35 Tryz.results35 rfl rfl ?_
    (repeat (first | refine zI ?_ | refine zL ?_ | refine zC ?_ | refine yaf ?_ | refine yae ?_ | refine zR ?_ | refine zD ?_ | refine zK ?_ | refine zB ?_ | refine zA ?_ | refine zS ?_ | refine zU ?_ | refine zV ?_ | refine zF ?_ | with_reducible refine yab ?_ | with_reducible refine yad ?_ | refine yaa ?_ | refine yac ?_ | refine yag ?_ | refine zT ?_ | refine zE ?_ | refine zX ?_ | refine ybd tok rfl rfl rfl (by omega) (ycb hk) rfl rfl ?_ | refine yal rfl rfl (rlevel_con t.1 (by omega)) rfl rfl ?_))
    iterate 3 (refine yaq rfl (fun h9 => absurd h9 (by simp; omega)) (fun _ => ?_); (repeat (first | refine zI ?_ | refine zL ?_ | refine zC ?_ | refine yaf ?_ | refine yae ?_ | refine zR ?_ | refine zD ?_ | refine zK ?_ | refine zB ?_ | refine zA ?_ | refine zS ?_ | refine zU ?_ | refine zV ?_ | refine zF ?_ | with_reducible refine yab ?_ | with_reducible refine yad ?_ | refine yaa ?_ | refine yac ?_ | refine yag ?_ | refine zT ?_ | refine zE ?_ | refine zX ?_)))
    refine ych 51 rfl (fun h9 => absurd h9 (by simp; omega)) (fun _ => ?_)
    (repeat (first | refine zI ?_ | refine zL ?_ | refine zC ?_ | refine yaf ?_ | refine yae ?_ | refine zR ?_ | refine zD ?_ | refine zK ?_ | refine zB ?_ | refine zA ?_ | refine zS ?_ | refine zU ?_ | refine zV ?_ | refine zF ?_ | with_reducible refine yab ?_ | with_reducible refine yad ?_ | refine yaa ?_ | refine yac ?_ | refine yag ?_ | refine zT ?_ | refine zE ?_ | refine zX ?_))
    refine yaq rfl (fun _ => ?_) (fun h9 => absurd h9 (by simp; omega))
    (repeat (first | refine zI ?_ | refine zL ?_ | refine zC ?_ | refine yaf ?_ | refine yae ?_ | refine zR ?_ | refine zD ?_ | refine zK ?_ | refine zB ?_ | refine zA ?_ | refine zS ?_ | refine zU ?_ | refine zV ?_ | refine zF ?_ | with_reducible refine yab ?_ | with_reducible refine yad ?_ | refine yaa ?_ | refine yac ?_ | refine yag ?_ | refine zT ?_ | refine zE ?_ | refine zX ?_ | refine yal rfl rfl hw rfl rfl ?_ | refine yal rfl rfl cb rfl rfl ?_ | refine ydi rfl rfl (by simp only [List.length_cons, List.length_nil]; omega) rfl rfl ?_))
    refine yau ?_; refine ⟨_, rfl, ?_⟩
    exact yem (by simp [yax, h19])
  obtain ⟨hw1, hw2⟩ := word_agg (op := t.1) (by omega)
  have hw := word_con t.1 (by omega) _ hw1
  have hagg : yhk t.1 = true := by simp [yhk]; omega
  refine ybt Tryz.func35 rfl rfl Tryz.ntmps35 Tryz.results35 rfl rfl ?_
  (repeat (first | refine zI ?_ | refine zL ?_ | refine zC ?_ | refine yaf ?_ | refine yae ?_ | refine zR ?_ | refine zD ?_ | refine zK ?_ | refine zB ?_ | refine zA ?_ | refine zS ?_ | refine zU ?_ | refine zV ?_ | refine zF ?_ | with_reducible refine yab ?_ | with_reducible refine yad ?_ | refine yaa ?_ | refine yac ?_ | refine yag ?_ | refine zT ?_ | refine zE ?_ | refine zX ?_ | refine ybd tok rfl rfl rfl (by omega) (ycb hk) rfl rfl ?_ | refine yal rfl rfl (rlevel_con t.1 (by omega)) rfl rfl ?_))
  iterate 3 (refine yaq rfl (fun h9 => absurd h9 (by simp; omega)) (fun _ => ?_); (repeat (first | refine zI ?_ | refine zL ?_ | refine zC ?_ | refine yaf ?_ | refine yae ?_ | refine zR ?_ | refine zD ?_ | refine zK ?_ | refine zB ?_ | refine zA ?_ | refine zS ?_ | refine zU ?_ | refine zV ?_ | refine zF ?_ | with_reducible refine yab ?_ | with_reducible refine yad ?_ | refine yaa ?_ | refine yac ?_ | refine yag ?_ | refine zT ?_ | refine zE ?_ | refine zX ?_)))
  refine ych 51 rfl (fun h9 => absurd h9 (by simp; omega)) (fun _ => ?_)
  (repeat (first | refine zI ?_ | refine zL ?_ | refine zC ?_ | refine yaf ?_ | refine yae ?_ | refine zR ?_ | refine zD ?_ | refine zK ?_ | refine zB ?_ | refine zA ?_ | refine zS ?_ | refine zU ?_ | refine zV ?_ | refine zF ?_ | with_reducible refine yab ?_ | with_reducible refine yad ?_ | refine yaa ?_ | refine yac ?_ | refine yag ?_ | refine zT ?_ | refine zE ?_ | refine zX ?_))
  refine yaq rfl (fun h9 => absurd h9 (by simp; omega)) (fun _ => ?_)
  (repeat (first | refine zI ?_ | refine zL ?_ | refine zC ?_ | refine yaf ?_ | refine yae ?_ | refine zR ?_ | refine zD ?_ | refine zK ?_ | refine zB ?_ | refine zA ?_ | refine zS ?_ | refine zU ?_ | refine zV ?_ | refine zF ?_ | with_reducible refine yab ?_ | with_reducible refine yad ?_ | refine yaa ?_ | refine yac ?_ | refine yag ?_ | refine zT ?_ | refine zE ?_ | refine zX ?_ | refine yal rfl rfl (raggr_con t.1) rfl rfl ?_))
  refine yaq rfl (fun _ => ?_) (fun h9 => absurd h9 (by simp [hagg]))
  (repeat (first | refine zI ?_ | refine zL ?_ | refine zC ?_ | refine yaf ?_ | refine yae ?_ | refine zR ?_ | refine zD ?_ | refine zK ?_ | refine zB ?_ | refine zA ?_ | refine zS ?_ | refine zU ?_ | refine zV ?_ | refine zF ?_ | with_reducible refine yab ?_ | with_reducible refine yad ?_ | refine yaa ?_ | refine yac ?_ | refine yag ?_ | refine zT ?_ | refine zE ?_ | refine zX ?_ | refine yal rfl rfl hw rfl rfl ?_))
  refine ydi (b := [40]) rfl rfl (by simp only [List.length_cons, List.length_nil]; omega) rfl rfl ?_
  (repeat (first | refine zI ?_ | refine zL ?_ | refine zC ?_ | refine yaf ?_ | refine yae ?_ | refine zR ?_ | refine zD ?_ | refine zK ?_ | refine zB ?_ | refine zA ?_ | refine zS ?_ | refine zU ?_ | refine zV ?_ | refine zF ?_ | with_reducible refine yab ?_ | with_reducible refine yad ?_ | refine yaa ?_ | refine yac ?_ | refine yag ?_ | refine zT ?_ | refine zE ?_ | refine zX ?_ | refine yal rfl rfl ct rfl rfl ?_ | refine ydi (b := yax false names a) rfl rfl (by simp only [List.length_cons, List.length_nil, List.length_append]; omega) rfl rfl ?_ | refine ydi (b := [41]) rfl rfl (by simp only [List.length_cons, List.length_nil, List.length_append]; omega) rfl rfl ?_))
  refine yau ?_; refine ⟨_, rfl, ?_⟩
  exact yem (by simp [yax, h18, h19])
theorem text_bi {t : Tm} {a b : Ex} (hes : es.length ≤ 1000) (hn : ∀ w ∈ names, w.length ≤ 24) (ht : ar t.1 = 2) (hEa : a.ok) (hEb : b.ok) (hab : ∀ x ∈ (Ex.bi t a b).fl, yep names.length x = true) (iha : yjc es names a) (ihb : yjc es names b) : yjc es names (.bi t a b) := by
  intro k hat
  have hk := hat.head rfl
  have hbd := hat.bound
  simp only [Ex.fl, List.length_cons, List.length_append] at hbd
  have hlt : k < es.length := (List.getElem?_eq_some_iff.1 hk).1
  obtain ⟨hata, hatb⟩ := AtE.tail (x := a.fl) (y := b.fl) (show (t :: (a.fl ++ b.fl)) <+: es.drop k from hat)
  have ha : ∀ x ∈ a.fl, yep names.length x = true := fun x hx => hab x (by simp [Ex.fl, hx])
  have hb : ∀ x ∈ b.fl, yep names.length x = true := fun x hx => hab x (by simp [Ex.fl, hx])
  have hop := ar_bi ht
  have hlev := lev_bi hop
  obtain ⟨r, hr⟩ := hat
  obtain ⟨hw1, hw2⟩ := word_bin (op := t.1) hop
  have hw := word_con t.1 (by omega) _ hw1
  have hbla := fun l => ykp hn hEa ha (ybf l a)
  have hblb := fun l => ykp hn hEb hb (ybf l b)
  have hagg : yhk t.1 = false := by simp [yhk]; omega
  have co := roperand_con es k (.bi t a b) [a] t r (b.fl ++ r) hes hr.symm ⟨ht, hEa, hEb⟩ (by rw [← hr]; simp [flX, Ex.fl]) (fun X hX => by simp at hX; rw [hX]; exact hEa) (by rw [ht]; simp)
  rw [show (flX [a]).length = a.fl.length by simp [flX]] at co
  have cb := fun l lev e => bracketed_con hn hes hEb hb ihb (k + 1 + a.fl.length) hatb l lev e
  have ca := fun l lev e => bracketed_con hn hes hEa ha iha (k + 1) hata l lev e
  have h4a := hbla 4
  have h4b := hblb 4
  have hla := hbla (ydo t.1)
  have hlb := hblb (ydo t.1 + 1)
  refine ybt Tryz.func35 rfl rfl Tryz.ntmps35 Tryz.results35 rfl rfl ?_
  (repeat (first | refine zI ?_ | refine zL ?_ | refine zC ?_ | refine yaf ?_ | refine yae ?_ | refine zR ?_ | refine zD ?_ | refine zK ?_ | refine zB ?_ | refine zA ?_ | refine zS ?_ | refine zU ?_ | refine zV ?_ | refine zF ?_ | with_reducible refine yab ?_ | with_reducible refine yad ?_ | refine yaa ?_ | refine yac ?_ | refine yag ?_ | refine zT ?_ | refine zE ?_ | refine zX ?_ | refine ybd tok rfl rfl rfl (by omega) (ycb hk) rfl rfl ?_ | refine yal rfl rfl (rlevel_con t.1 (by omega)) rfl rfl ?_))
  iterate 3 (refine yaq rfl (fun h9 => absurd h9 (by simp; omega)) (fun _ => ?_); (repeat (first | refine zI ?_ | refine zL ?_ | refine zC ?_ | refine yaf ?_ | refine yae ?_ | refine zR ?_ | refine zD ?_ | refine zK ?_ | refine zB ?_ | refine zA ?_ | refine zS ?_ | refine zU ?_ | refine zV ?_ | refine zF ?_ | with_reducible refine yab ?_ | with_reducible refine yad ?_ | refine yaa ?_ | refine yac ?_ | refine yag ?_ | refine zT ?_ | refine zE ?_ | refine zX ?_)))
  refine ych 51 rfl (fun h9 => absurd h9 (by simp; omega)) (fun _ => ?_)
  (repeat (first | refine zI ?_ | refine zL ?_ | refine zC ?_ | refine yaf ?_ | refine yae ?_ | refine zR ?_ | refine zD ?_ | refine zK ?_ | refine zB ?_ | refine zA ?_ | refine zS ?_ | refine zU ?_ | refine zV ?_ | refine zF ?_ | with_reducible refine yab ?_ | with_reducible refine yad ?_ | refine yaa ?_ | refine yac ?_ | refine yag ?_ | refine zT ?_ | refine zE ?_ | refine zX ?_))
  refine yaq rfl (fun h9 => absurd h9 (by simp; omega)) (fun _ => ?_)
  (repeat (first | refine zI ?_ | refine zL ?_ | refine zC ?_ | refine yaf ?_ | refine yae ?_ | refine zR ?_ | refine zD ?_ | refine zK ?_ | refine zB ?_ | refine zA ?_ | refine zS ?_ | refine zU ?_ | refine zV ?_ | refine zF ?_ | with_reducible refine yab ?_ | with_reducible refine yad ?_ | refine yaa ?_ | refine yac ?_ | refine yag ?_ | refine zT ?_ | refine zE ?_ | refine zX ?_ | refine yal rfl rfl (raggr_con t.1) rfl rfl ?_))
  refine yaq rfl (fun h9 => absurd h9 (by simp [hagg])) (fun _ => ?_)
  (repeat (first | refine zI ?_ | refine zL ?_ | refine zC ?_ | refine yaf ?_ | refine yae ?_ | refine zR ?_ | refine zD ?_ | refine zK ?_ | refine zB ?_ | refine zA ?_ | refine zS ?_ | refine zU ?_ | refine zV ?_ | refine zF ?_ | with_reducible refine yab ?_ | with_reducible refine yad ?_ | refine yaa ?_ | refine yac ?_ | refine yag ?_ | refine zT ?_ | refine zE ?_ | refine zX ?_))
  refine yaq rfl (fun h9 => absurd h9 (by simp; omega)) (fun _ => ?_)
  (repeat (first | refine zI ?_ | refine zL ?_ | refine zC ?_ | refine yaf ?_ | refine yae ?_ | refine zR ?_ | refine zD ?_ | refine zK ?_ | refine zB ?_ | refine zA ?_ | refine zS ?_ | refine zU ?_ | refine zV ?_ | refine zF ?_ | with_reducible refine yab ?_ | with_reducible refine yad ?_ | refine yaa ?_ | refine yac ?_ | refine yag ?_ | refine zT ?_ | refine zE ?_ | refine zX ?_))
  refine yaq rfl (fun h3 => ?_) (fun h3 => ?_)
  · have h3 : ydo t.1 = 3 := by simp at h3; omega
    (repeat (first | refine zI ?_ | refine zL ?_ | refine zC ?_ | refine yaf ?_ | refine yae ?_ | refine zR ?_ | refine zD ?_ | refine zK ?_ | refine zB ?_ | refine zA ?_ | refine zS ?_ | refine zU ?_ | refine zV ?_ | refine zF ?_ | with_reducible refine yab ?_ | with_reducible refine yad ?_ | refine yaa ?_ | refine yac ?_ | refine yag ?_ | refine zT ?_ | refine zE ?_ | refine zX ?_ | refine yal rfl rfl (ca 4 5 rfl) rfl rfl ?_))
    refine ydi (b := [32]) rfl rfl (by simp only [List.length_cons, List.length_nil]; omega) rfl rfl ?_
    (repeat (first | refine zI ?_ | refine zL ?_ | refine zC ?_ | refine yaf ?_ | refine yae ?_ | refine zR ?_ | refine zD ?_ | refine zK ?_ | refine zB ?_ | refine zA ?_ | refine zS ?_ | refine zU ?_ | refine zV ?_ | refine zF ?_ | with_reducible refine yab ?_ | with_reducible refine yad ?_ | refine yaa ?_ | refine yac ?_ | refine yag ?_ | refine zT ?_ | refine zE ?_ | refine zX ?_ | refine yal rfl rfl hw rfl rfl ?_))
    refine ydi rfl rfl (by simp only [List.length_cons, List.length_nil, List.length_append]; omega) rfl rfl ?_
    refine ydi (b := [32]) rfl rfl (by simp only [List.length_cons, List.length_nil, List.length_append]; omega) rfl rfl ?_
    (repeat (first | refine zI ?_ | refine zL ?_ | refine zC ?_ | refine yaf ?_ | refine yae ?_ | refine zR ?_ | refine zD ?_ | refine zK ?_ | refine zB ?_ | refine zA ?_ | refine zS ?_ | refine zU ?_ | refine zV ?_ | refine zF ?_ | with_reducible refine yab ?_ | with_reducible refine yad ?_ | refine yaa ?_ | refine yac ?_ | refine yag ?_ | refine zT ?_ | refine zE ?_ | refine zX ?_ | refine yal rfl rfl co rfl rfl ?_ | refine yal rfl rfl (cb 4 5 rfl) rfl rfl ?_ | refine ydi rfl rfl (by simp only [List.length_cons, List.length_nil, List.length_append]; omega) rfl rfl ?_))
    refine yau ?_; refine ⟨_, rfl, ?_⟩
    exact yem (by simp [yax, yih, h3])
  have h3 : ydo t.1 ≠ 3 := by simp at h3; omega
  (repeat (first | refine zI ?_ | refine zL ?_ | refine zC ?_ | refine yaf ?_ | refine yae ?_ | refine zR ?_ | refine zD ?_ | refine zK ?_ | refine zB ?_ | refine zA ?_ | refine zS ?_ | refine zU ?_ | refine zV ?_ | refine zF ?_ | with_reducible refine yab ?_ | with_reducible refine yad ?_ | refine yaa ?_ | refine yac ?_ | refine yag ?_ | refine zT ?_ | refine zE ?_ | refine zX ?_))
  refine yaq rfl (fun _ => ?_) (fun h9 => absurd h9 (by simp; omega))
  (repeat (first | refine zI ?_ | refine zL ?_ | refine zC ?_ | refine yaf ?_ | refine yae ?_ | refine zR ?_ | refine zD ?_ | refine zK ?_ | refine zB ?_ | refine zA ?_ | refine zS ?_ | refine zU ?_ | refine zV ?_ | refine zF ?_ | with_reducible refine yab ?_ | with_reducible refine yad ?_ | refine yaa ?_ | refine yac ?_ | refine yag ?_ | refine zT ?_ | refine zE ?_ | refine zX ?_ | refine yal rfl rfl (ca (ydo t.1) ((ydo t.1 : Nat) + 1) rfl) rfl rfl ?_))
  refine ydi (b := [32]) rfl rfl (by simp only [List.length_cons, List.length_nil]; omega) rfl rfl ?_
  (repeat (first | refine zI ?_ | refine zL ?_ | refine zC ?_ | refine yaf ?_ | refine yae ?_ | refine zR ?_ | refine zD ?_ | refine zK ?_ | refine zB ?_ | refine zA ?_ | refine zS ?_ | refine zU ?_ | refine zV ?_ | refine zF ?_ | with_reducible refine yab ?_ | with_reducible refine yad ?_ | refine yaa ?_ | refine yac ?_ | refine yag ?_ | refine zT ?_ | refine zE ?_ | refine zX ?_ | refine yal rfl rfl hw rfl rfl ?_))
  refine ydi rfl rfl (by simp only [List.length_cons, List.length_nil, List.length_append]; omega) rfl rfl ?_
  refine ydi (b := [32]) rfl rfl (by simp only [List.length_cons, List.length_nil, List.length_append]; omega) rfl rfl ?_
  (repeat (first | refine zI ?_ | refine zL ?_ | refine zC ?_ | refine yaf ?_ | refine yae ?_ | refine zR ?_ | refine zD ?_ | refine zK ?_ | refine zB ?_ | refine zA ?_ | refine zS ?_ | refine zU ?_ | refine zV ?_ | refine zF ?_ | with_reducible refine yab ?_ | with_reducible refine yad ?_ | refine yaa ?_ | refine yac ?_ | refine yag ?_ | refine zT ?_ | refine zE ?_ | refine zX ?_ | refine yal rfl rfl co rfl rfl ?_ | refine yal rfl rfl (cb (ydo t.1 + 1) ((ydo t.1 : Nat) + 1 + 1) (by omega)) rfl rfl ?_ | refine ydi rfl rfl (by simp only [List.length_cons, List.length_nil, List.length_append]; omega) rfl rfl ?_))
  refine yau ?_; refine ⟨_, rfl, ?_⟩
  exact yem (by simp [yax, yih, h3])
theorem text_tr {t : Tm} {a b c : Ex} (hes : es.length ≤ 1000) (hn : ∀ w ∈ names, w.length ≤ 24) (ht : ar t.1 = 3) (hEa : a.ok) (hEb : b.ok) (hEc : c.ok) (hab : ∀ x ∈ (Ex.tr t a b c).fl, yep names.length x = true) (iha : yjc es names a) (ihb : yjc es names b) (ihc : yjc es names c) : yjc es names (.tr t a b c) := by
  intro k hat
  have hk := hat.head rfl
  have hbd := hat.bound
  simp only [Ex.fl, List.length_cons, List.length_append] at hbd
  have hlt : k < es.length := (List.getElem?_eq_some_iff.1 hk).1
  obtain ⟨hata, hatbc⟩ := AtE.tail (x := a.fl) (y := b.fl ++ c.fl) (show (t :: (a.fl ++ (b.fl ++ c.fl))) <+: es.drop k from hat)
  have hatb : AtE es (k + 1 + a.fl.length) b := (List.prefix_append b.fl c.fl).trans hatbc
  have hatc : AtE es (k + 1 + a.fl.length + b.fl.length) c := by
    obtain ⟨q, hq⟩ := hatbc
    refine ⟨q, ?_⟩
    rw [← List.drop_drop, ← hq]
    simp
  have ha : ∀ x ∈ a.fl, yep names.length x = true := fun x hx => hab x (by simp [Ex.fl, hx])
  have hb : ∀ x ∈ b.fl, yep names.length x = true := fun x hx => hab x (by simp [Ex.fl, hx])
  have hc : ∀ x ∈ c.fl, yep names.length x = true := fun x hx => hab x (by simp [Ex.fl, hx])
  have hop := ar_tr ht
  obtain ⟨r, hr⟩ := hat
  have hbla := ykp hn hEa ha (ybf 1 a)
  have hblb := ykp hn hEb hb false
  have hblc := ykp hn hEc hc false
  simp only [brT] at hblb hblc
  have hagg : yhk t.1 = false := by simp [yhk]; omega
  have co := roperand_con es k (.tr t a b c) [a] t r (b.fl ++ (c.fl ++ r)) hes hr.symm ⟨ht, hEa, hEb, hEc⟩ (by rw [← hr]; simp [flX, Ex.fl]) (fun X hX => by simp at hX; rw [hX]; exact hEa) (by rw [ht]; simp)
  rw [show (flX [a]).length = a.fl.length by simp [flX]] at co
  have co2 := roperand_con es k (.tr t a b c) [a, b] t r (c.fl ++ r) hes hr.symm ⟨ht, hEa, hEb, hEc⟩ (by rw [← hr]; simp [flX, Ex.fl]) (fun X hX => by simp at hX; rcases hX with rfl | rfl <;> assumption) (by rw [ht]; simp)
  rw [show k + 1 + (flX [a, b]).length = k + 1 + a.fl.length + b.fl.length by simp [flX]; omega] at co2
  have ca := bracketed_con hn hes hEa ha iha (k + 1) hata 1 2 rfl
  have cb := ihb (k + 1 + a.fl.length) hatb
  have cc := ihc (k + 1 + a.fl.length + b.fl.length) hatc
  refine ybt Tryz.func35 rfl rfl Tryz.ntmps35 Tryz.results35 rfl rfl ?_
  (repeat (first | refine zI ?_ | refine zL ?_ | refine zC ?_ | refine yaf ?_ | refine yae ?_ | refine zR ?_ | refine zD ?_ | refine zK ?_ | refine zB ?_ | refine zA ?_ | refine zS ?_ | refine zU ?_ | refine zV ?_ | refine zF ?_ | with_reducible refine yab ?_ | with_reducible refine yad ?_ | refine yaa ?_ | refine yac ?_ | refine yag ?_ | refine zT ?_ | refine zE ?_ | refine zX ?_ | refine ybd tok rfl rfl rfl (by omega) (ycb hk) rfl rfl ?_ | refine yal rfl rfl (rlevel_con t.1 (by omega)) rfl rfl ?_))
  iterate 3 (refine yaq rfl (fun h9 => absurd h9 (by simp; omega)) (fun _ => ?_); (repeat (first | refine zI ?_ | refine zL ?_ | refine zC ?_ | refine yaf ?_ | refine yae ?_ | refine zR ?_ | refine zD ?_ | refine zK ?_ | refine zB ?_ | refine zA ?_ | refine zS ?_ | refine zU ?_ | refine zV ?_ | refine zF ?_ | with_reducible refine yab ?_ | with_reducible refine yad ?_ | refine yaa ?_ | refine yac ?_ | refine yag ?_ | refine zT ?_ | refine zE ?_ | refine zX ?_)))
  refine ych 51 rfl (fun h9 => absurd h9 (by simp; omega)) (fun _ => ?_)
  (repeat (first | refine zI ?_ | refine zL ?_ | refine zC ?_ | refine yaf ?_ | refine yae ?_ | refine zR ?_ | refine zD ?_ | refine zK ?_ | refine zB ?_ | refine zA ?_ | refine zS ?_ | refine zU ?_ | refine zV ?_ | refine zF ?_ | with_reducible refine yab ?_ | with_reducible refine yad ?_ | refine yaa ?_ | refine yac ?_ | refine yag ?_ | refine zT ?_ | refine zE ?_ | refine zX ?_))
  refine yaq rfl (fun h9 => absurd h9 (by simp; omega)) (fun _ => ?_)
  (repeat (first | refine zI ?_ | refine zL ?_ | refine zC ?_ | refine yaf ?_ | refine yae ?_ | refine zR ?_ | refine zD ?_ | refine zK ?_ | refine zB ?_ | refine zA ?_ | refine zS ?_ | refine zU ?_ | refine zV ?_ | refine zF ?_ | with_reducible refine yab ?_ | with_reducible refine yad ?_ | refine yaa ?_ | refine yac ?_ | refine yag ?_ | refine zT ?_ | refine zE ?_ | refine zX ?_ | refine yal rfl rfl (raggr_con t.1) rfl rfl ?_))
  refine yaq rfl (fun h9 => absurd h9 (by simp [hagg])) (fun _ => ?_)
  (repeat (first | refine zI ?_ | refine zL ?_ | refine zC ?_ | refine yaf ?_ | refine yae ?_ | refine zR ?_ | refine zD ?_ | refine zK ?_ | refine zB ?_ | refine zA ?_ | refine zS ?_ | refine zU ?_ | refine zV ?_ | refine zF ?_ | with_reducible refine yab ?_ | with_reducible refine yad ?_ | refine yaa ?_ | refine yac ?_ | refine yag ?_ | refine zT ?_ | refine zE ?_ | refine zX ?_))
  refine yaq rfl (fun _ => ?_) (fun h9 => absurd h9 (by simp; omega))
  (repeat (first | refine zI ?_ | refine zL ?_ | refine zC ?_ | refine yaf ?_ | refine yae ?_ | refine zR ?_ | refine zD ?_ | refine zK ?_ | refine zB ?_ | refine zA ?_ | refine zS ?_ | refine zU ?_ | refine zV ?_ | refine zF ?_ | with_reducible refine yab ?_ | with_reducible refine yad ?_ | refine yaa ?_ | refine yac ?_ | refine yag ?_ | refine zT ?_ | refine zE ?_ | refine zX ?_ | refine yal rfl rfl ca rfl rfl ?_))
  refine ydi (b := [32, 63, 32]) rfl rfl (by simp only [List.length_cons, List.length_nil]; omega) rfl rfl ?_
  (repeat (first | refine zI ?_ | refine zL ?_ | refine zC ?_ | refine yaf ?_ | refine yae ?_ | refine zR ?_ | refine zD ?_ | refine zK ?_ | refine zB ?_ | refine zA ?_ | refine zS ?_ | refine zU ?_ | refine zV ?_ | refine zF ?_ | with_reducible refine yab ?_ | with_reducible refine yad ?_ | refine yaa ?_ | refine yac ?_ | refine yag ?_ | refine zT ?_ | refine zE ?_ | refine zX ?_ | refine yal rfl rfl co rfl rfl ?_ | refine yal rfl rfl cb rfl rfl ?_))
  refine ydi rfl rfl (by simp only [List.length_cons, List.length_nil, List.length_append]; omega) rfl rfl ?_
  refine ydi (b := [32, 58, 32]) rfl rfl (by simp only [List.length_cons, List.length_nil, List.length_append]; omega) rfl rfl ?_
  (repeat (first | refine zI ?_ | refine zL ?_ | refine zC ?_ | refine yaf ?_ | refine yae ?_ | refine zR ?_ | refine zD ?_ | refine zK ?_ | refine zB ?_ | refine zA ?_ | refine zS ?_ | refine zU ?_ | refine zV ?_ | refine zF ?_ | with_reducible refine yab ?_ | with_reducible refine yad ?_ | refine yaa ?_ | refine yac ?_ | refine yag ?_ | refine zT ?_ | refine zE ?_ | refine zX ?_ | refine yal rfl rfl co2 rfl rfl ?_ | refine yal rfl rfl cc rfl rfl ?_ | refine ydi rfl rfl (by simp only [List.length_cons, List.length_nil, List.length_append]; omega) rfl rfl ?_))
  refine yau ?_; refine ⟨_, rfl, ?_⟩
  exact yem (by simp [yax, brT])
theorem text_all (hes : es.length ≤ 1000) (hn : ∀ w ∈ names, w.length ≤ 24) : ∀ (E : Ex), E.ok → (∀ x ∈ E.fl, yep names.length x = true) → yjc es names E
  | .lf t, hE, ha => text_lf hes hn hE (ha t (by simp [Ex.fl]))
  | .un t a, hE, ha => text_un hes hn hE.1 hE.2 (fun x hx => ha x (by simp [Ex.fl, hx])) (text_all hes hn a hE.2 fun x hx => ha x (by simp [Ex.fl, hx]))
  | .bi t a b, hE, ha => text_bi hes hn hE.1 hE.2.1 hE.2.2 ha (text_all hes hn a hE.2.1 fun x hx => ha x (by simp [Ex.fl, hx])) (text_all hes hn b hE.2.2 fun x hx => ha x (by simp [Ex.fl, hx]))
  | .tr t a b c, hE, ha => text_tr hes hn hE.1 hE.2.1 hE.2.2.1 hE.2.2.2 ha (text_all hes hn a hE.2.1 fun x hx => ha x (by simp [Ex.fl, hx])) (text_all hes hn b hE.2.2.1 fun x hx => ha x (by simp [Ex.fl, hx])) (text_all hes hn c hE.2.2.2 fun x hx => ha x (by simp [Ex.fl, hx]))
end
theorem rformat_con (e : List Tm) (names : List Bs) (he : e.length ≤ 1000000) (hl : names.length ≤ 1000) (hn : ∀ x ∈ names, x.length ≤ 1000) : Con Tryz.prog 16 [ybc e, ybe names] (formatA (formatX nmW names e)) := by
  refine ybt Tryz.func16 rfl rfl Tryz.ntmps16 Tryz.results16 rfl rfl ?_
  (repeat (first | refine zI ?_ | refine zL ?_ | refine zC ?_ | refine yaf ?_ | refine yae ?_ | refine zR ?_ | refine zD ?_ | refine zK ?_ | refine zB ?_ | refine zA ?_ | refine zS ?_ | refine zU ?_ | refine zV ?_ | refine zF ?_ | with_reducible refine yab ?_ | with_reducible refine yad ?_ | refine yaa ?_ | refine yac ?_ | refine yag ?_ | refine zT ?_ | refine zE ?_ | refine zX ?_ | refine yal rfl rfl (rgood_con names hl hn) rfl rfl ?_))
  refine ych 10 rfl (fun h1 => ?_) (fun h1 => ?_)
  · have h1 : ¬ ydw nmW names = true := by simpa using h1
    (repeat (first | refine zI ?_ | refine zL ?_ | refine zC ?_ | refine yaf ?_ | refine yae ?_ | refine zR ?_ | refine zD ?_ | refine zK ?_ | refine zB ?_ | refine zA ?_ | refine zS ?_ | refine zU ?_ | refine zV ?_ | refine zF ?_ | with_reducible refine yab ?_ | with_reducible refine yad ?_ | refine yaa ?_ | refine yac ?_ | refine yag ?_ | refine zT ?_ | refine zE ?_ | refine zX ?_))
    refine yau ?_; refine ⟨_, rfl, ?_⟩
    rw [formatX_bad (fun h => h1 h.1)]
    exact Frz.pure
  have h1 : ydw nmW names = true := by simpa using h1
  (repeat (first | refine zI ?_ | refine zL ?_ | refine zC ?_ | refine yaf ?_ | refine yae ?_ | refine zR ?_ | refine zD ?_ | refine zK ?_ | refine zB ?_ | refine zA ?_ | refine zS ?_ | refine zU ?_ | refine zV ?_ | refine zF ?_ | with_reducible refine yab ?_ | with_reducible refine yad ?_ | refine yaa ?_ | refine yac ?_ | refine yag ?_ | refine zT ?_ | refine zE ?_ | refine zX ?_ | refine yal rfl rfl (xrvalid_con e names.length he) rfl rfl ?_))
  refine yaq rfl (fun h2 => ?_) (fun h2 => ?_)
  · have h2 : ¬ ycp e names.length = true := by simpa using h2
    (repeat (first | refine zI ?_ | refine zL ?_ | refine zC ?_ | refine yaf ?_ | refine yae ?_ | refine zR ?_ | refine zD ?_ | refine zK ?_ | refine zB ?_ | refine zA ?_ | refine zS ?_ | refine zU ?_ | refine zV ?_ | refine zF ?_ | with_reducible refine yab ?_ | with_reducible refine yad ?_ | refine yaa ?_ | refine yac ?_ | refine yag ?_ | refine zT ?_ | refine zE ?_ | refine zX ?_))
    refine yau ?_; refine ⟨_, rfl, ?_⟩
    rw [formatX_bad (fun h => h2 h.2)]
    exact Frz.pure
  have h2 : ycp e names.length = true := by simpa using h2
  obtain ⟨E, hp, hE, hfl, hlen, hargs⟩ := valid_spec h2
  have hnl := good_len h1
  have hw := text_all (es := e) (names := names) (by omega) hnl E hE (hfl ▸ hargs) 0 (by rw [AtE, hfl]; exact List.prefix_refl _)
  have hft : ydn false names e = yax false names E := by rw [ydn, hp]
  have hbl := (ycv hnl false E hE (hfl ▸ hargs)).1
  rw [hfl] at hbl
  (repeat (first | refine zI ?_ | refine zL ?_ | refine zC ?_ | refine yaf ?_ | refine yae ?_ | refine zR ?_ | refine zD ?_ | refine zK ?_ | refine zB ?_ | refine zA ?_ | refine zS ?_ | refine zU ?_ | refine zV ?_ | refine zF ?_ | with_reducible refine yab ?_ | with_reducible refine yad ?_ | refine yaa ?_ | refine yac ?_ | refine yag ?_ | refine zT ?_ | refine zE ?_ | refine zX ?_ | refine yal rfl rfl hw rfl rfl ?_))
  refine yaq rfl (fun h9 => absurd h9 (by simp [yaw]; omega)) (fun _ => ?_)
  (repeat (first | refine zI ?_ | refine zL ?_ | refine zC ?_ | refine yaf ?_ | refine yae ?_ | refine zR ?_ | refine zD ?_ | refine zK ?_ | refine zB ?_ | refine zA ?_ | refine zS ?_ | refine zU ?_ | refine zV ?_ | refine zF ?_ | with_reducible refine yab ?_ | with_reducible refine yad ?_ | refine yaa ?_ | refine yac ?_ | refine yag ?_ | refine zT ?_ | refine zE ?_ | refine zX ?_))
  refine yau ?_; refine ⟨_, rfl, ?_⟩
  rw [formatX_good h1 h2, hft]
  exact Frz.pure
theorem exprFormats_con (e : List Tm) (names : List Bs) : Con Tryz.prog 4 [ybc e, ybe names] (yga true) := by
  refine ybt Tryz.func4 rfl rfl Tryz.ntmps4 Tryz.results4 rfl rfl ?_
  (repeat (first | refine zI ?_ | refine zL ?_ | refine zC ?_ | refine yaf ?_ | refine yae ?_ | refine zR ?_ | refine zD ?_ | refine zK ?_ | refine zB ?_ | refine zA ?_ | refine zS ?_ | refine zU ?_ | refine zV ?_ | refine zF ?_ | with_reducible refine yab ?_ | with_reducible refine yad ?_ | refine yaa ?_ | refine yac ?_ | refine yag ?_ | refine zT ?_ | refine zE ?_ | refine zX ?_ | refine yal rfl rfl (lightE_con e) rfl rfl ?_))
  refine ych 12 rfl (fun h1 => ?_) (fun h1 => ?_)
  · (repeat (first | refine zI ?_ | refine zL ?_ | refine zC ?_ | refine yaf ?_ | refine yae ?_ | refine zR ?_ | refine zD ?_ | refine zK ?_ | refine zB ?_ | refine zA ?_ | refine zS ?_ | refine zU ?_ | refine zV ?_ | refine zF ?_ | with_reducible refine yab ?_ | with_reducible refine yad ?_ | refine yaa ?_ | refine yac ?_ | refine yag ?_ | refine zT ?_ | refine zE ?_ | refine zX ?_ | refine yal rfl rfl awake06_con rfl rfl ?_))
    refine yau ?_; refine ⟨_, rfl, ?_⟩
    exact ybu rfl
  have h1 : e.length ≤ 250 := by simp at h1; omega
  (repeat (first | refine zI ?_ | refine zL ?_ | refine zC ?_ | refine yaf ?_ | refine yae ?_ | refine zR ?_ | refine zD ?_ | refine zK ?_ | refine zB ?_ | refine zA ?_ | refine zS ?_ | refine zU ?_ | refine zV ?_ | refine zF ?_ | with_reducible refine yab ?_ | with_reducible refine yad ?_ | refine yaa ?_ | refine yac ?_ | refine yag ?_ | refine zT ?_ | refine zE ?_ | refine zX ?_ | refine yal rfl rfl (light06_con names) rfl rfl ?_))
  refine yaq rfl (fun h2 => ?_) (fun h2 => ?_)
  · (repeat (first | refine zI ?_ | refine zL ?_ | refine zC ?_ | refine yaf ?_ | refine yae ?_ | refine zR ?_ | refine zD ?_ | refine zK ?_ | refine zB ?_ | refine zA ?_ | refine zS ?_ | refine zU ?_ | refine zV ?_ | refine zF ?_ | with_reducible refine yab ?_ | with_reducible refine yad ?_ | refine yaa ?_ | refine yac ?_ | refine yag ?_ | refine zT ?_ | refine zE ?_ | refine zX ?_ | refine yal rfl rfl awake06_con rfl rfl ?_))
    refine yau ?_; refine ⟨_, rfl, ?_⟩
    exact ybu rfl
  have h2 : yjb names = true := by simpa using h2
  obtain ⟨l1, l2⟩ := lightN_spec h2
  have hp := format_con e names (by omega) (by omega) (fun w hw => by have := l2 w hw; omega)
  have hr := rformat_con e names (by omega) (by omega) (fun w hw => by have := l2 w hw; omega)
  (repeat (first | refine zI ?_ | refine zL ?_ | refine zC ?_ | refine yaf ?_ | refine yae ?_ | refine zR ?_ | refine zD ?_ | refine zK ?_ | refine zB ?_ | refine zA ?_ | refine zS ?_ | refine zU ?_ | refine zV ?_ | refine zF ?_ | with_reducible refine yab ?_ | with_reducible refine yad ?_ | refine yaa ?_ | refine yac ?_ | refine yag ?_ | refine zT ?_ | refine zE ?_ | refine zX ?_ | refine yal rfl rfl hp rfl rfl ?_ | refine yal rfl rfl hr rfl rfl ?_ | refine yal rfl rfl awake06_con rfl rfl ?_))
  refine L_true 36 rfl (beq_self_eq_true _) ?_
  (repeat (first | refine zI ?_ | refine zL ?_ | refine zC ?_ | refine yaf ?_ | refine yae ?_ | refine zR ?_ | refine zD ?_ | refine zK ?_ | refine zB ?_ | refine zA ?_ | refine zS ?_ | refine zU ?_ | refine zV ?_ | refine zF ?_ | with_reducible refine yab ?_ | with_reducible refine yad ?_ | refine yaa ?_ | refine yac ?_ | refine yag ?_ | refine zT ?_ | refine zE ?_ | refine zX ?_))
  refine yau ?_; refine ⟨_, rfl, ?_⟩
  exact ybu (by simp)
theorem walk_ExprFormats (v0 : Value) (z0 : List Tm) (v1 : Value) (z1 : List Bs) (w : World) (h0 : yfp w v0 z0 ∧ ∀ t ∈ z0, TermIn t) (h1 : NamesOk w v1 z1) (hG : ykj w) :
    Calls Tryz.prog 4 #[v0, v1] w fun e w' => e = .returned (.bool true) ∧ Below w.heap.size w w' :=
  calls_of_con (exprFormats_con z0 z1) hG (okW_lt w) (relAll_cons (terms_relE h0.1) (relAll_cons (names_rel h1) relAll_nil))
end Go.Proofs.YtcpgpiabeimefaaGreatDoor
