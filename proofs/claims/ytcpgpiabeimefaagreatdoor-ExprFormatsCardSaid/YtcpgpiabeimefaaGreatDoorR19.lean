/- Part 19 of the texts under ExprFormats,ExprBracketsEverything: joined, with what it needs alone. -/
import Derived.Test.YtcpgpiabeimefaaGreatDoorR11
import Derived.Test.YtcpgpiabeimefaaGreatDoorR14
import Derived.Test.YtcpgpiabeimefaaGreatDoorR18
set_option linter.unusedVariables false
set_option maxRecDepth 100000
set_option maxHeartbeats 4000000
namespace Go.Proofs.YtcpgpiabeimefaaGreatDoor
open Go.RowKit
def AtE (es : List Tm) (k : Nat) (E : Ex) : Prop := E.fl <+: es.drop k
theorem fl_pos (E : Ex) : 1 ≤ E.fl.length := by cases E <;> simp [Ex.fl] <;> omega
theorem AtE.bound {es : List Tm} {k : Nat} {E : Ex} (h : AtE es k E) : k + E.fl.length ≤ es.length := by
  have h1 := h.length_le
  have h2 := fl_pos E
  rw [List.length_drop] at h1
  omega
theorem AtE.head {es : List Tm} {k : Nat} {E : Ex} {t : Tm} {r : List Tm} (h : AtE es k E) (hE : E.fl = t :: r) : es[k]? = some t := by
  obtain ⟨p, hp⟩ := h
  rw [hE] at hp
  have := congrArg (fun l => l[0]?) hp
  simpa using this.symm
theorem AtE.tail {es : List Tm} {k : Nat} {t : Tm} {x y : List Tm} (h : (t :: (x ++ y)) <+: es.drop k) : x <+: es.drop (k + 1) ∧ y <+: es.drop (k + 1 + x.length) := by
  obtain ⟨p, hp⟩ := h
  have h1 : es.drop (k + 1) = x ++ (y ++ p) := by
    rw [← List.tail_drop, ← hp]; simp
  refine ⟨⟨y ++ p, h1.symm⟩, ⟨p, ?_⟩⟩
  rw [← List.drop_drop, h1]
  simp
def yhj (es : List Tm) (names : List Bs) (E : Ex) : Prop := ∀ (k level : Nat) (u : Bool) (l : Bs), level ≤ 6 → AtE es k E → l.length + 40 * E.fl.length ≤ 900000 → yia Tryz.prog 32 [.lp 1001 0, i64 k, i64 level] (yao (wrH u es names l)) (i64 (k + E.fl.length : Nat)) (yao (wrH true es names (l ++ brT (ybf level E) (yax false names E))))
section
variable {es : List Tm} {names : List Bs}
theorem ykp (hn : ∀ w ∈ names, w.length ≤ 24) {E : Ex} (hE : E.ok) (ha : ∀ t ∈ E.fl, yep names.length t = true) (b : Bool) : (brT b (yax false names E)).length ≤ 34 * E.fl.length := by
  have h1 := (ycv hn false E hE ha).1
  have h2 := yfn b (yax false names E)
  omega
theorem lev_un {op : Int} (h : op = 18 ∨ op = 19) : ydo op = 6 := by rcases h with rfl | rfl <;> decide
theorem lev_bi {op : Int} (h : 30 ≤ op ∧ op ≤ 42) : 1 ≤ ydo op ∧ ydo op ≤ 5 := by
  obtain ⟨k, hk⟩ := yhb (n := 13) h.1 (by omega)
  have := bin_op k
  rw [hk]
  exact ⟨this.2.2.1, this.2.2.2.1⟩
theorem ar_un {op : Int} (h : ar op = 1) : 18 ≤ op ∧ op ≤ 29 := by unfold ar at h; (repeat' split at h) <;> omega
theorem ar_bi {op : Int} (h : ar op = 2) : 30 ≤ op ∧ op ≤ 42 := by unfold ar at h; (repeat' split at h) <;> omega
theorem ar_tr {op : Int} (h : ar op = 3) : op = 43 := by unfold ar at h; (repeat' split at h) <;> omega
theorem bin_len : ∀ w ∈ ykk, w.length ≤ 2 := by decide
theorem agg_len : ∀ w ∈ ykc, w.length ≤ 6 := by decide
theorem primary_agg {t : Tm} {a : Ex} {u : Bool} {l : Bs} {k : Nat} (ht : 20 ≤ t.1 ∧ t.1 ≤ 29) (hes : es.length ≤ 1000) (hn : ∀ w ∈ names, w.length ≤ 24) (hE : a.ok) (ha : ∀ x ∈ a.fl, yep names.length x = true) (hat : AtE es k (.un t a)) (iha : yhj es names a) (hl : l.length + 40 * (Ex.un t a).fl.length ≤ 900000) : yia Tryz.prog 67 [.lp 1001 0, i64 k] (yao (wrH u es names l)) (i64 (k + (Ex.un t a).fl.length : Nat)) (yao (wrH true es names (l ++ yax false names (.un t a)))) := by
  have hk := hat.head rfl
  have hbd := hat.bound
  have hlt : k < es.length := (List.getElem?_eq_some_iff.1 hk).1
  have hata : AtE es (k + 1) a := (AtE.tail (y := []) (by have h : (t :: a.fl) <+: es.drop k := hat; simpa using h)).1
  simp only [Ex.fl, List.length_cons] at hl hbd
  have hagg : yhk t.1 = true := by simp [yhk, ht.1, ht.2]
  obtain ⟨w, hw⟩ := yin (l := ykc) (k := (t.1 - 20).toNat) (by show _ < 10; omega)
  have hwl := agg_len w (List.mem_of_getElem? hw)
  have hwE : ykv t.1 = w := by rw [ykv, hw]; rfl
  have ca := iha (k + 1) 0 true (l ++ (w ++ [40])) (by omega) hata (by simp only [List.length_append, List.length_cons, List.length_nil]; omega)
  have hlo : ybf 0 a = false := by simp [ybf]
  rw [hlo] at ca
  have hbl := ykp hn hE ha false
  simp only [brT] at hbl ca
  have ee : l ++ (w ++ [40]) ++ yax false names a ++ bl (ba [41]) = l ++ yax false names (.un t a) := by
    rw [ycu]
    simp only [yax, hwE]
    rw [if_neg (by omega), if_neg (by omega)]
    simp
  have e1 : l ++ bl (ba w ++ ba [40]) = l ++ (w ++ [40]) := by rw [yhs, ycu, ycu]
  have er : k + 1 + a.fl.length = k + (Ex.un t a).fl.length := by simp only [Ex.fl, List.length_cons]; omega
  refine ycw tok Tryz.func67 rfl rfl Tryz.ntmps67 Tryz.results67 rfl (yhz rfl) ?_
  show A _ _ _ _ (S _ _)
  (repeat (first | refine zI ?_ | refine zL ?_ | refine zC ?_ | refine yaf ?_ | refine yae ?_ | refine zR ?_ | refine zD ?_ | refine zK ?_ | refine zB ?_ | refine zA ?_ | refine zS ?_ | refine zU ?_ | refine zV ?_ | refine zF ?_ | with_reducible refine yab ?_ | with_reducible refine yad ?_ | refine yaa ?_ | refine yac ?_ | refine yag ?_ | refine zT ?_ | refine zE ?_ | refine zX ?_ | refine yam rfl rfl rfl rfl ?_ | refine zA (h2 := fresh_wr rfl) ?_ | refine ybd tok rfl rfl rfl (by omega) (ycb hk) rfl rfl ?_ | refine yal rfl rfl (xagg_con t.1) rfl rfl ?_))
  rw [hagg]
  (repeat (first | refine zI ?_ | refine zL ?_ | refine zC ?_ | refine zK ?_ | refine zB ?_ | refine zA ?_ | refine zS ?_ | refine zU ?_ | refine zV ?_ | refine zF ?_ | refine zX ?_ | refine yaf ?_))
  (repeat (first | with_reducible refine yad ?_ | with_reducible refine yab ?_ | refine yac ?_ | refine yae ?_ | refine yaa ?_))
  refine zT ?_
  (repeat (first | with_reducible refine yad ?_ | with_reducible refine yab ?_ | refine yac ?_ | refine yae ?_ | refine yaa ?_))
  refine ybs (lf := lfB) mixed (by kernel_rfl) rfl ?_
  (repeat (first | refine zI ?_ | refine zL ?_ | refine zC ?_ | refine zK ?_ | refine zB ?_ | refine zA ?_ | refine zS ?_ | refine zU ?_ | refine zV ?_ | refine zF ?_ | refine zX ?_ | refine yaf ?_ | refine yam rfl rfl rfl rfl ?_ | refine yal rfl rfl (aggregateWords_con) rfl rfl ?_ | refine ybd tok rfl rfl rfl (by omega) (yds hw) rfl rfl ?_))
  refine yec (a := ba w) (b := ba [40]) rfl rfl (by rw [yaw, yaw]; simp; omega) rfl rfl ?_
  refine yhg (yas u es names l (ba w ++ ba [40]) (by rw [ByteArray.size_append, yaw, yaw]; simp; omega)) rfl rfl rfl rfl (ybn rfl rfl) rfl rfl rfl rfl rfl ?_
  rw [e1]
  (repeat (first | refine zI ?_ | refine zL ?_ | refine zC ?_ | refine yaf ?_ | refine yae ?_ | refine zR ?_ | refine zD ?_ | refine zK ?_ | refine zB ?_ | refine zA ?_ | refine zS ?_ | refine zU ?_ | refine zV ?_ | refine zF ?_ | with_reducible refine yab ?_ | with_reducible refine yad ?_ | refine yaa ?_ | refine yac ?_ | refine yag ?_ | refine zT ?_ | refine zE ?_ | refine zX ?_ | refine yam rfl rfl rfl rfl ?_ | refine yhg (ca) rfl rfl rfl rfl (ybn rfl rfl) rfl rfl rfl rfl rfl ?_ | refine yhg (yas true es names (l ++ (w ++ [40]) ++ yax false names a) (ba [41]) (by rw [yaw]; simp only [List.length_append, List.length_cons, List.length_nil]; omega)) rfl rfl rfl rfl (ybn rfl rfl) rfl rfl rfl rfl rfl ?_))
  rw [ee, er]
  refine yau ?_
  exact ⟨_, rfl, ybk _, yba (ybn rfl rfl)⟩
theorem write_lf {t : Tm} (hes : es.length ≤ 1000) (hn : ∀ w ∈ names, w.length ≤ 24) (hE : ar t.1 = 0) (ha : yep names.length t = true) : yhj es names (.lf t) := by
  intro k level u l hlev hat hl
  have hk := hat.head rfl
  have hlt : k < es.length := (List.getElem?_eq_some_iff.1 hk).1
  have h7 : ydo t.1 = 7 := levO_7 (by unfold ar at hE; (repeat' split at hE) <;> omega)
  have hlo : ybf level (.lf t) = false := by simp [ybf, Ex.op, h7]; omega
  rw [hlo]
  have cp := primary_lf (u := u) (l := l) hk hes hE ha hn (by omega)
  refine ycw tok Tryz.func32 rfl rfl Tryz.ntmps32 Tryz.results32 rfl (yhz rfl) ?_
  show A _ _ _ _ (S _ _)
  (repeat (first | refine zI ?_ | refine zL ?_ | refine zC ?_ | refine yaf ?_ | refine yae ?_ | refine zR ?_ | refine zD ?_ | refine zK ?_ | refine zB ?_ | refine zA ?_ | refine zS ?_ | refine zU ?_ | refine zV ?_ | refine zF ?_ | with_reducible refine yab ?_ | with_reducible refine yad ?_ | refine yaa ?_ | refine yac ?_ | refine yag ?_ | refine zT ?_ | refine zE ?_ | refine zX ?_ | refine yam rfl rfl rfl rfl ?_ | refine ybd tok rfl rfl rfl (by omega) (ycb hk) rfl rfl ?_ | refine yal rfl rfl (ycr t.1) rfl rfl ?_))
  rw [h7]
  (repeat (first | refine zI ?_ | refine zL ?_ | refine zC ?_ | refine yaf ?_ | refine yae ?_ | refine zR ?_ | refine zD ?_ | refine zK ?_ | refine zB ?_ | refine zA ?_ | refine zS ?_ | refine zU ?_ | refine zV ?_ | refine zF ?_ | with_reducible refine yab ?_ | with_reducible refine yad ?_ | refine yaa ?_ | refine yac ?_ | refine yag ?_ | refine zT ?_ | refine zE ?_ | refine zX ?_))
  refine yaq rfl (fun h9 => absurd h9 (by simp; omega)) (fun _ => ?_)
  (repeat (first | refine zI ?_ | refine zL ?_ | refine zC ?_ | refine yaf ?_ | refine yae ?_ | refine zR ?_ | refine zD ?_ | refine zK ?_ | refine zB ?_ | refine zA ?_ | refine zS ?_ | refine zU ?_ | refine zV ?_ | refine zF ?_ | with_reducible refine yab ?_ | with_reducible refine yad ?_ | refine yaa ?_ | refine yac ?_ | refine yag ?_ | refine zT ?_ | refine zE ?_ | refine zX ?_ | refine yhg (cp) rfl rfl rfl rfl (ybn rfl rfl) rfl rfl rfl rfl rfl ?_))
  refine yau ?_
  exact ⟨_, rfl, ybk _, yba (ybn rfl rfl)⟩
theorem write_un {t : Tm} {a : Ex} (hes : es.length ≤ 1000) (hn : ∀ w ∈ names, w.length ≤ 24) (ht : ar t.1 = 1) (hE : a.ok) (ha : ∀ x ∈ a.fl, yep names.length x = true) (iha : yhj es names a) : yhj es names (.un t a) := by
  intro k level u l hlev hat hl
  have hk := hat.head rfl
  have hbd := hat.bound
  have hlt : k < es.length := (List.getElem?_eq_some_iff.1 hk).1
  have hata : AtE es (k + 1) a := (AtE.tail (y := []) (by have h : (t :: a.fl) <+: es.drop k := hat; simpa using h)).1
  have hop := ar_un ht
  have er : k + 1 + a.fl.length = k + (Ex.un t a).fl.length := by simp only [Ex.fl, List.length_cons]; omega
  by_cases hagg : 20 ≤ t.1
  · have h7 : ydo t.1 = 7 := levO_7 (.inr ⟨hagg, hop.2⟩)
    have hlo : ybf level (.un t a) = false := by simp [ybf, Ex.op, h7]; omega
    rw [hlo]
    have cp := primary_agg (u := u) (l := l) ⟨hagg, hop.2⟩ hes hn hE ha hat iha hl
    refine ycw tok Tryz.func32 rfl rfl Tryz.ntmps32 Tryz.results32 rfl (yhz rfl) ?_
    show A _ _ _ _ (S _ _)
    (repeat (first | refine zI ?_ | refine zL ?_ | refine zC ?_ | refine yaf ?_ | refine yae ?_ | refine zR ?_ | refine zD ?_ | refine zK ?_ | refine zB ?_ | refine zA ?_ | refine zS ?_ | refine zU ?_ | refine zV ?_ | refine zF ?_ | with_reducible refine yab ?_ | with_reducible refine yad ?_ | refine yaa ?_ | refine yac ?_ | refine yag ?_ | refine zT ?_ | refine zE ?_ | refine zX ?_ | refine yam rfl rfl rfl rfl ?_ | refine ybd tok rfl rfl rfl (by omega) (ycb hk) rfl rfl ?_ | refine yal rfl rfl (ycr t.1) rfl rfl ?_))
    rw [h7]
    (repeat (first | refine zI ?_ | refine zL ?_ | refine zC ?_ | refine yaf ?_ | refine yae ?_ | refine zR ?_ | refine zD ?_ | refine zK ?_ | refine zB ?_ | refine zA ?_ | refine zS ?_ | refine zU ?_ | refine zV ?_ | refine zF ?_ | with_reducible refine yab ?_ | with_reducible refine yad ?_ | refine yaa ?_ | refine yac ?_ | refine yag ?_ | refine zT ?_ | refine zE ?_ | refine zX ?_))
    refine yaq rfl (fun h9 => absurd h9 (by simp; omega)) (fun _ => ?_)
    (repeat (first | refine zI ?_ | refine zL ?_ | refine zC ?_ | refine yaf ?_ | refine yae ?_ | refine zR ?_ | refine zD ?_ | refine zK ?_ | refine zB ?_ | refine zA ?_ | refine zS ?_ | refine zU ?_ | refine zV ?_ | refine zF ?_ | with_reducible refine yab ?_ | with_reducible refine yad ?_ | refine yaa ?_ | refine yac ?_ | refine yag ?_ | refine zT ?_ | refine zE ?_ | refine zX ?_ | refine yhg (cp) rfl rfl rfl rfl (ybn rfl rfl) rfl rfl rfl rfl rfl ?_))
    refine yau ?_
    exact ⟨_, rfl, ybk _, yba (ybn rfl rfl)⟩
  simp only [Ex.fl, List.length_cons] at hl hbd
  have h6 : ydo t.1 = 6 := lev_un (by omega)
  have hlo : ybf level (.un t a) = false := by simp [ybf, Ex.op, h6]; omega
  rw [hlo]
  by_cases h18 : t.1 = 18
  · have ca := iha (k + 1) 6 true (l ++ bl (ba [45])) (by omega) hata (by rw [ycu]; simp only [List.length_append, List.length_cons, List.length_nil]; omega)
    have ee : l ++ bl (ba [45]) ++ brT (ybf 6 a) (yax false names a) = l ++ brT false (yax false names (.un t a)) := by rw [ycu]; simp [yax, h18, brT]
    refine ycw tok Tryz.func32 rfl rfl Tryz.ntmps32 Tryz.results32 rfl (yhz rfl) ?_
    show A _ _ _ _ (S _ _)
    (repeat (first | refine zI ?_ | refine zL ?_ | refine zC ?_ | refine yaf ?_ | refine yae ?_ | refine zR ?_ | refine zD ?_ | refine zK ?_ | refine zB ?_ | refine zA ?_ | refine zS ?_ | refine zU ?_ | refine zV ?_ | refine zF ?_ | with_reducible refine yab ?_ | with_reducible refine yad ?_ | refine yaa ?_ | refine yac ?_ | refine yag ?_ | refine zT ?_ | refine zE ?_ | refine zX ?_ | refine yam rfl rfl rfl rfl ?_ | refine ybd tok rfl rfl rfl (by omega) (ycb hk) rfl rfl ?_ | refine yal rfl rfl (ycr t.1) rfl rfl ?_))
    rw [h6]
    (repeat (first | refine zI ?_ | refine zL ?_ | refine zC ?_ | refine yaf ?_ | refine yae ?_ | refine zR ?_ | refine zD ?_ | refine zK ?_ | refine zB ?_ | refine zA ?_ | refine zS ?_ | refine zU ?_ | refine zV ?_ | refine zF ?_ | with_reducible refine yab ?_ | with_reducible refine yad ?_ | refine yaa ?_ | refine yac ?_ | refine yag ?_ | refine zT ?_ | refine zE ?_ | refine zX ?_))
    refine yaq rfl (fun h9 => absurd h9 (by simp; omega)) (fun _ => ?_)
    (repeat (first | refine zI ?_ | refine zL ?_ | refine zC ?_ | refine yaf ?_ | refine yae ?_ | refine zR ?_ | refine zD ?_ | refine zK ?_ | refine zB ?_ | refine zA ?_ | refine zS ?_ | refine zU ?_ | refine zV ?_ | refine zF ?_ | with_reducible refine yab ?_ | with_reducible refine yad ?_ | refine yaa ?_ | refine yac ?_ | refine yag ?_ | refine zT ?_ | refine zE ?_ | refine zX ?_))
    refine yaq rfl (fun _ => ?_) (fun h9 => absurd h9 (by simp [h18]))
    (repeat (first | refine zI ?_ | refine zL ?_ | refine zC ?_ | refine yaf ?_ | refine yae ?_ | refine zR ?_ | refine zD ?_ | refine zK ?_ | refine zB ?_ | refine zA ?_ | refine zS ?_ | refine zU ?_ | refine zV ?_ | refine zF ?_ | with_reducible refine yab ?_ | with_reducible refine yad ?_ | refine yaa ?_ | refine yac ?_ | refine yag ?_ | refine zT ?_ | refine zE ?_ | refine zX ?_ | refine yam rfl rfl rfl rfl ?_ | refine yhg (yas u es names l (ba [45]) (by rw [yaw]; simp; omega)) rfl rfl rfl rfl (ybn rfl rfl) rfl rfl rfl rfl rfl ?_ | refine yhg (ca) rfl rfl rfl rfl (ybn rfl rfl) rfl rfl rfl rfl rfl ?_))
    rw [ee, er]
    refine yau ?_
    exact ⟨_, rfl, ybk _, yba (ybn rfl rfl)⟩
  · have h19 : t.1 = 19 := by omega
    have ca := iha (k + 1) 6 true (l ++ bl (ba [33])) (by omega) hata (by rw [ycu]; simp only [List.length_append, List.length_cons, List.length_nil]; omega)
    have ee : l ++ bl (ba [33]) ++ brT (ybf 6 a) (yax false names a) = l ++ brT false (yax false names (.un t a)) := by rw [ycu]; simp [yax, h19, brT]
    refine ycw tok Tryz.func32 rfl rfl Tryz.ntmps32 Tryz.results32 rfl (yhz rfl) ?_
    show A _ _ _ _ (S _ _)
    (repeat (first | refine zI ?_ | refine zL ?_ | refine zC ?_ | refine yaf ?_ | refine yae ?_ | refine zR ?_ | refine zD ?_ | refine zK ?_ | refine zB ?_ | refine zA ?_ | refine zS ?_ | refine zU ?_ | refine zV ?_ | refine zF ?_ | with_reducible refine yab ?_ | with_reducible refine yad ?_ | refine yaa ?_ | refine yac ?_ | refine yag ?_ | refine zT ?_ | refine zE ?_ | refine zX ?_ | refine yam rfl rfl rfl rfl ?_ | refine ybd tok rfl rfl rfl (by omega) (ycb hk) rfl rfl ?_ | refine yal rfl rfl (ycr t.1) rfl rfl ?_))
    rw [h6]
    (repeat (first | refine zI ?_ | refine zL ?_ | refine zC ?_ | refine yaf ?_ | refine yae ?_ | refine zR ?_ | refine zD ?_ | refine zK ?_ | refine zB ?_ | refine zA ?_ | refine zS ?_ | refine zU ?_ | refine zV ?_ | refine zF ?_ | with_reducible refine yab ?_ | with_reducible refine yad ?_ | refine yaa ?_ | refine yac ?_ | refine yag ?_ | refine zT ?_ | refine zE ?_ | refine zX ?_))
    refine yaq rfl (fun h9 => absurd h9 (by simp; omega)) (fun _ => ?_)
    (repeat (first | refine zI ?_ | refine zL ?_ | refine zC ?_ | refine yaf ?_ | refine yae ?_ | refine zR ?_ | refine zD ?_ | refine zK ?_ | refine zB ?_ | refine zA ?_ | refine zS ?_ | refine zU ?_ | refine zV ?_ | refine zF ?_ | with_reducible refine yab ?_ | with_reducible refine yad ?_ | refine yaa ?_ | refine yac ?_ | refine yag ?_ | refine zT ?_ | refine zE ?_ | refine zX ?_))
    refine yaq rfl (fun h9 => absurd h9 (by simp [h19])) (fun _ => ?_)
    (repeat (first | refine zI ?_ | refine zL ?_ | refine zC ?_ | refine yaf ?_ | refine yae ?_ | refine zR ?_ | refine zD ?_ | refine zK ?_ | refine zB ?_ | refine zA ?_ | refine zS ?_ | refine zU ?_ | refine zV ?_ | refine zF ?_ | with_reducible refine yab ?_ | with_reducible refine yad ?_ | refine yaa ?_ | refine yac ?_ | refine yag ?_ | refine zT ?_ | refine zE ?_ | refine zX ?_ | refine yam rfl rfl rfl rfl ?_ | refine yhg (yas u es names l (ba [33]) (by rw [yaw]; simp; omega)) rfl rfl rfl rfl (ybn rfl rfl) rfl rfl rfl rfl rfl ?_ | refine yhg (ca) rfl rfl rfl rfl (ybn rfl rfl) rfl rfl rfl rfl rfl ?_))
    rw [ee, er]
    refine yau ?_
    exact ⟨_, rfl, ybk _, yba (ybn rfl rfl)⟩
theorem low_none {t : List (Nat × AV)} {x : Nat} (h : allLt 1000000 t = true) (hx : 1000000 ≤ x) : ybb t x = none := by
  cases hq : ybb t x with
  | none => rfl
  | some y => have := allLt_spec h x y hq; omega
theorem write_bi {t : Tm} {a b : Ex} (hes : es.length ≤ 1000) (hn : ∀ w ∈ names, w.length ≤ 24) (ht : ar t.1 = 2) (hEa : a.ok) (hEb : b.ok) (hab0 : ∀ x ∈ (Ex.bi t a b).fl, yep names.length x = true) (iha : yhj es names a) (ihb : yhj es names b) : yhj es names (.bi t a b) := by
  intro k level u l hlev hat hl
  have haa : ∀ x ∈ a.fl, yep names.length x = true := fun x hx => hab0 x (by simp [Ex.fl, hx])
  have hab : ∀ x ∈ b.fl, yep names.length x = true := fun x hx => hab0 x (by simp [Ex.fl, hx])
  have hk := hat.head rfl
  have hbd := hat.bound
  have hlt : k < es.length := (List.getElem?_eq_some_iff.1 hk).1
  obtain ⟨hata, hatb⟩ := AtE.tail (show (t :: (a.fl ++ b.fl)) <+: es.drop k from hat)
  have hop := ar_bi ht
  have hv := lev_bi hop
  have er : k + 1 + a.fl.length + b.fl.length = k + (Ex.bi t a b).fl.length := by simp only [Ex.fl, List.length_cons, List.length_append]; omega
  have hll : l.length + 40 * (Ex.bi t a b).fl.length ≤ 900000 := hl
  simp only [Ex.fl, List.length_cons, List.length_append] at hl hbd hll
  obtain ⟨w, hw⟩ := yin (l := ykk) (k := (t.1 - 30).toNat) (by show _ < 13; omega)
  have hwl := bin_len w (List.mem_of_getElem? hw)
  have hwE : ykw t.1 = w := by rw [ykw, hw]; rfl
  have hbla : ∀ c, (brT c (yax false names a)).length ≤ 34 * a.fl.length := ykp hn hEa haa
  by_cases hlo : ydo t.1 < level
  · have hlo2 : ybf level (.bi t a b) = true := decide_eq_true hlo
    rw [hlo2]
    by_cases h3 : ydo t.1 = 3
    · have ca := iha (k + 1) 4 true (l ++ bl (ba [40])) (by omega) hata (by rw [ycu]; simp only [List.length_append, List.length_cons, List.length_nil]; omega)
      have cb := ihb (k + 1 + a.fl.length) (3 + 1) true ((l ++ bl (ba [40])) ++ brT (ybf 4 a) (yax false names a) ++ bl (ba [32] ++ ba w ++ ba [32])) (by omega) hatb (by simp only [yhs, ycu]; have := hbla (ybf 4 a); simp only [List.length_append, List.length_cons, List.length_nil]; omega)
      have ee : (l ++ bl (ba [40])) ++ brT (ybf 4 a) (yax false names a) ++ bl (ba [32] ++ ba w ++ ba [32]) ++ brT (ybf (3 + 1) b) (yax false names b) = (l ++ bl (ba [40])) ++ yax false names (.bi t a b) := by
        simp only [yhs, ycu]
        simp only [yax, Bool.false_or, yih, h3, if_true, hwE]
        simp
      have hblb := ykp hn hEb hab false
      have hbl2 := ycv hn false (.bi t a b) ⟨ht, hEa, hEb⟩ hab0
      refine conM_ofD tok Tryz.func32 rfl rfl Tryz.ntmps32 Tryz.results32 rfl (yhz rfl) ?_
      show AF _ _ _ _ (S _ _)
      refine yej (ydy ?_)
      refine yah (lf := lfT) rfl ?_
      (repeat (first | refine zI ?_ | refine zL ?_ | refine zC ?_ | refine zK ?_ | refine zB ?_ | refine zA ?_ | refine zS ?_ | refine zU ?_ | refine zV ?_ | refine zF ?_ | refine zX ?_ | refine yaf ?_))
      show AF _ _ _ _ (S _ _)
      refine yej (ydy ?_)
      refine yah (lf := lfT) rfl ?_
      (repeat (first | refine zI ?_ | refine zL ?_ | refine zC ?_ | refine zK ?_ | refine zB ?_ | refine zA ?_ | refine zS ?_ | refine zU ?_ | refine zV ?_ | refine zF ?_ | refine zX ?_ | refine yaf ?_ | refine yam rfl rfl rfl rfl ?_ | refine ybd tok rfl rfl rfl (by omega) (ycb hk) rfl rfl ?_))
      show AF _ _ _ _ (S _ _)
      refine yej (ydy ?_)
      refine yah (lf := lfT) rfl ?_
      (repeat (first | refine zI ?_ | refine zL ?_ | refine zC ?_ | refine zK ?_ | refine zB ?_ | refine zA ?_ | refine zS ?_ | refine zU ?_ | refine zV ?_ | refine zF ?_ | refine zX ?_ | refine yaf ?_ | refine yal rfl rfl (ycr t.1) rfl rfl ?_))
      rw [h3]
      show AF _ _ _ _ (S _ _)
      refine yej ?_
      refine yej (ydy ?_)
      refine yah (lf := lfT) rfl ?_
      (repeat (first | refine zI ?_ | refine zL ?_ | refine zC ?_ | refine zK ?_ | refine zB ?_ | refine zA ?_ | refine zS ?_ | refine zU ?_ | refine zV ?_ | refine zF ?_ | refine zX ?_ | refine yaf ?_))
      show AF _ _ _ _ (S _ _)
      refine AF_cond rfl (fun _ => ?_) (fun h9 => absurd h9 (by simp; omega))
      refine yej (ydy ?_)
      refine yah (lf := lfT) rfl ?_
      (repeat (first | refine zI ?_ | refine zL ?_ | refine zC ?_ | refine zK ?_ | refine zB ?_ | refine zA ?_ | refine zS ?_ | refine zU ?_ | refine zV ?_ | refine zF ?_ | refine zX ?_ | refine yaf ?_ | refine yam rfl rfl rfl rfl ?_ | refine yhg (yas u es names l (ba [40]) (by rw [yaw]; simp; omega)) rfl rfl rfl rfl (ybn rfl rfl) rfl rfl rfl rfl rfl ?_))
      show AF _ _ _ _ (S _ _)
      refine AF_region_defer (lf := lfT) 3 rfl rfl rfl rfl rfl rfl (fun d h => by cases h) ?_
      (repeat (first | refine zI ?_ | refine zL ?_ | refine zC ?_ | refine zK ?_ | refine zB ?_ | refine zA ?_ | refine zS ?_ | refine zU ?_ | refine zV ?_ | refine zF ?_ | refine zX ?_ | refine yaf ?_ | refine yam rfl rfl rfl rfl ?_))
      refine ⟨rfl, _, _, _, ⟨_, Tryz.func66, rfl, rfl⟩, rfl, rfl, fun x hx => low_none rfl hx, ?_⟩
      show Lex _ _ _ _ _ [] _
      refine .nil ?_
      show A _ _ _ _ _
      refine A_weak (s' := S [(0, .lp 1001 0), (1, i64 k), (7, i64 t.1), (8, i64 (3 : Nat)), (1000000, .lp 1001 0), (1000001, yff (ba [41]))] (wrH true es names (l ++ bl (ba [40])))) ?_ ⟨subF_look ⟨rfl, rfl, rfl, rfl, rfl, rfl, trivial⟩, fun id x h => h⟩
      (repeat (first | refine zI ?_ | refine zL ?_ | refine zC ?_ | refine yaf ?_ | refine yae ?_ | refine zR ?_ | refine zD ?_ | refine zK ?_ | refine zB ?_ | refine zA ?_ | refine zS ?_ | refine zU ?_ | refine zV ?_ | refine zF ?_ | with_reducible refine yab ?_ | with_reducible refine yad ?_ | refine yaa ?_ | refine yac ?_ | refine yag ?_ | refine zT ?_ | refine zE ?_ | refine zX ?_))
      (repeat (first | refine zI ?_ | refine zL ?_ | refine zC ?_ | refine yaf ?_ | refine yae ?_ | refine zR ?_ | refine zK ?_ | refine zB ?_ | refine zA ?_ | refine zS ?_ | refine zU ?_ | refine zV ?_ | refine zF ?_ | with_reducible refine yab ?_ | with_reducible refine yad ?_ | refine yaa ?_ | refine yac ?_ | refine yag ?_ | refine zT ?_ | refine zE ?_ | refine zX ?_ | refine yam rfl rfl rfl rfl ?_ | refine yhg (ca) rfl rfl rfl rfl (ybn rfl rfl) rfl rfl rfl rfl rfl ?_))
      (repeat (first | with_reducible refine yad ?_ | with_reducible refine yab ?_ | refine yac ?_ | refine yae ?_ | refine yaa ?_))
      refine ybs (lf := lfB) mixed (by kernel_rfl) rfl ?_
      (repeat (first | refine zI ?_ | refine zL ?_ | refine zC ?_ | refine zK ?_ | refine zB ?_ | refine zA ?_ | refine zS ?_ | refine zU ?_ | refine zV ?_ | refine zF ?_ | refine zX ?_ | refine yaf ?_ | refine yam rfl rfl rfl rfl ?_ | refine yal rfl rfl (binarySigns_con) rfl rfl ?_ | refine ybd tok rfl rfl rfl (by omega) (yds hw) rfl rfl ?_))
      refine yec (a := ba [32]) (b := ba w) rfl rfl (by rw [yaw, yaw]; simp; omega) rfl rfl ?_
      refine yec (a := ba [32] ++ ba w) (b := ba [32]) rfl rfl (by rw [ByteArray.size_append, yaw, yaw]; simp; omega) rfl rfl ?_
      refine yhg (yas true es names _ (ba [32] ++ ba w ++ ba [32]) (by rw [ByteArray.size_append, ByteArray.size_append, yaw, yaw]; have := hbla (ybf 4 a); rw [ycu]; simp only [List.length_append, List.length_cons, List.length_nil]; omega)) rfl rfl rfl rfl (ybn rfl rfl) rfl rfl rfl rfl rfl ?_
      (repeat (first | refine zI ?_ | refine zL ?_ | refine zC ?_ | refine yaf ?_ | refine yae ?_ | refine zR ?_ | refine zD ?_ | refine zK ?_ | refine zB ?_ | refine zA ?_ | refine zS ?_ | refine zU ?_ | refine zV ?_ | refine zF ?_ | with_reducible refine yab ?_ | with_reducible refine yad ?_ | refine yaa ?_ | refine yac ?_ | refine yag ?_ | refine zT ?_ | refine zE ?_ | refine zX ?_ | refine yam rfl rfl rfl rfl ?_ | refine yhg (cb) rfl rfl rfl rfl (ybn rfl rfl) rfl rfl rfl rfl rfl ?_))
      rw [ee, er]
      refine yau ?_
      refine ends_defer (h' := []) (args0 := [.lp 1001 0, yff (ba [41])]) (hm := wrH true es names (l ++ bl (ba [40]) ++ yax false names (Ex.bi t a b))) (hm' := wrH true es names (l ++ bl (ba [40]) ++ yax false names (Ex.bi t a b) ++ bl (ba [41]))) [(1001, 1001), (1003, 1003)] rfl rfl rfl ⟨rfl, rfl, trivial⟩ (w_writeString_K true es names _ (ba [41]) (by rw [yaw, ycu]; simp only [List.length_append, List.length_cons, List.length_nil]; omega)) rfl rfl rfl rfl (by rw [renO_wr]; exact ybn rfl rfl) rfl (fun j ob hj hob => by cases hob) rfl (ybk _) (fun id o ho => ?_)
      rw [show l ++ brT true (yax false names (Ex.bi t a b)) = l ++ bl (ba [40]) ++ yax false names (Ex.bi t a b) ++ bl (ba [41]) by rw [ycu, ycu]; simp [brT]] at ho
      exact ho
    · have ca := iha (k + 1) (ydo t.1) true (l ++ bl (ba [40])) (by omega) hata (by rw [ycu]; simp only [List.length_append, List.length_cons, List.length_nil]; omega)
      have cb := ihb (k + 1 + a.fl.length) ((ydo t.1) + 1) true ((l ++ bl (ba [40])) ++ brT (ybf (ydo t.1) a) (yax false names a) ++ bl (ba [32] ++ ba w ++ ba [32])) (by omega) hatb (by simp only [yhs, ycu]; have := hbla (ybf (ydo t.1) a); simp only [List.length_append, List.length_cons, List.length_nil]; omega)
      have ee : (l ++ bl (ba [40])) ++ brT (ybf (ydo t.1) a) (yax false names a) ++ bl (ba [32] ++ ba w ++ ba [32]) ++ brT (ybf ((ydo t.1) + 1) b) (yax false names b) = (l ++ bl (ba [40])) ++ yax false names (.bi t a b) := by
        simp only [yhs, ycu]
        simp only [yax, Bool.false_or, yih, h3, if_false, hwE]
        simp
      have hblb := ykp hn hEb hab false
      have hbl2 := ycv hn false (.bi t a b) ⟨ht, hEa, hEb⟩ hab0
      refine conM_ofD tok Tryz.func32 rfl rfl Tryz.ntmps32 Tryz.results32 rfl (yhz rfl) ?_
      show AF _ _ _ _ (S _ _)
      refine yej (ydy ?_)
      refine yah (lf := lfT) rfl ?_
      (repeat (first | refine zI ?_ | refine zL ?_ | refine zC ?_ | refine zK ?_ | refine zB ?_ | refine zA ?_ | refine zS ?_ | refine zU ?_ | refine zV ?_ | refine zF ?_ | refine zX ?_ | refine yaf ?_))
      show AF _ _ _ _ (S _ _)
      refine yej (ydy ?_)
      refine yah (lf := lfT) rfl ?_
      (repeat (first | refine zI ?_ | refine zL ?_ | refine zC ?_ | refine zK ?_ | refine zB ?_ | refine zA ?_ | refine zS ?_ | refine zU ?_ | refine zV ?_ | refine zF ?_ | refine zX ?_ | refine yaf ?_ | refine yam rfl rfl rfl rfl ?_ | refine ybd tok rfl rfl rfl (by omega) (ycb hk) rfl rfl ?_))
      show AF _ _ _ _ (S _ _)
      refine yej (ydy ?_)
      refine yah (lf := lfT) rfl ?_
      (repeat (first | refine zI ?_ | refine zL ?_ | refine zC ?_ | refine zK ?_ | refine zB ?_ | refine zA ?_ | refine zS ?_ | refine zU ?_ | refine zV ?_ | refine zF ?_ | refine zX ?_ | refine yaf ?_ | refine yal rfl rfl (ycr t.1) rfl rfl ?_))
      skip
      show AF _ _ _ _ (S _ _)
      refine yej ?_
      refine yej (ydy ?_)
      refine yah (lf := lfT) rfl ?_
      (repeat (first | refine zI ?_ | refine zL ?_ | refine zC ?_ | refine zK ?_ | refine zB ?_ | refine zA ?_ | refine zS ?_ | refine zU ?_ | refine zV ?_ | refine zF ?_ | refine zX ?_ | refine yaf ?_))
      show AF _ _ _ _ (S _ _)
      refine AF_cond rfl (fun _ => ?_) (fun h9 => absurd h9 (by simp; omega))
      refine yej (ydy ?_)
      refine yah (lf := lfT) rfl ?_
      (repeat (first | refine zI ?_ | refine zL ?_ | refine zC ?_ | refine zK ?_ | refine zB ?_ | refine zA ?_ | refine zS ?_ | refine zU ?_ | refine zV ?_ | refine zF ?_ | refine zX ?_ | refine yaf ?_ | refine yam rfl rfl rfl rfl ?_ | refine yhg (yas u es names l (ba [40]) (by rw [yaw]; simp; omega)) rfl rfl rfl rfl (ybn rfl rfl) rfl rfl rfl rfl rfl ?_))
      show AF _ _ _ _ (S _ _)
      refine AF_region_defer (lf := lfT) 3 rfl rfl rfl rfl rfl rfl (fun d h => by cases h) ?_
      (repeat (first | refine zI ?_ | refine zL ?_ | refine zC ?_ | refine zK ?_ | refine zB ?_ | refine zA ?_ | refine zS ?_ | refine zU ?_ | refine zV ?_ | refine zF ?_ | refine zX ?_ | refine yaf ?_ | refine yam rfl rfl rfl rfl ?_))
      refine ⟨rfl, _, _, _, ⟨_, Tryz.func66, rfl, rfl⟩, rfl, rfl, fun x hx => low_none rfl hx, ?_⟩
      show Lex _ _ _ _ _ [] _
      refine .nil ?_
      show A _ _ _ _ _
      refine A_weak (s' := S [(0, .lp 1001 0), (1, i64 k), (7, i64 t.1), (8, i64 (ydo t.1 : Nat)), (1000000, .lp 1001 0), (1000001, yff (ba [41]))] (wrH true es names (l ++ bl (ba [40])))) ?_ ⟨subF_look ⟨rfl, rfl, rfl, rfl, rfl, rfl, trivial⟩, fun id x h => h⟩
      (repeat (first | refine zI ?_ | refine zL ?_ | refine zC ?_ | refine yaf ?_ | refine yae ?_ | refine zR ?_ | refine zD ?_ | refine zK ?_ | refine zB ?_ | refine zA ?_ | refine zS ?_ | refine zU ?_ | refine zV ?_ | refine zF ?_ | with_reducible refine yab ?_ | with_reducible refine yad ?_ | refine yaa ?_ | refine yac ?_ | refine yag ?_ | refine zT ?_ | refine zE ?_ | refine zX ?_))
      refine yaq rfl (fun h9 => absurd h9 (by simp; omega)) (fun _ => ?_)
      (repeat (first | refine zI ?_ | refine zL ?_ | refine zC ?_ | refine yaf ?_ | refine yae ?_ | refine zR ?_ | refine zD ?_ | refine zK ?_ | refine zB ?_ | refine zA ?_ | refine zS ?_ | refine zU ?_ | refine zV ?_ | refine zF ?_ | with_reducible refine yab ?_ | with_reducible refine yad ?_ | refine yaa ?_ | refine yac ?_ | refine yag ?_ | refine zT ?_ | refine zE ?_ | refine zX ?_))
      refine yaq rfl (fun h9 => absurd h9 (by simp; omega)) (fun _ => ?_)
      (repeat (first | refine zI ?_ | refine zL ?_ | refine zC ?_ | refine yaf ?_ | refine yae ?_ | refine zR ?_ | refine zD ?_ | refine zK ?_ | refine zB ?_ | refine zA ?_ | refine zS ?_ | refine zU ?_ | refine zV ?_ | refine zF ?_ | with_reducible refine yab ?_ | with_reducible refine yad ?_ | refine yaa ?_ | refine yac ?_ | refine yag ?_ | refine zT ?_ | refine zE ?_ | refine zX ?_))
      refine yaq rfl (fun h9 => absurd h9 (by simp; omega)) (fun _ => ?_)
      (repeat (first | refine zI ?_ | refine zL ?_ | refine zC ?_ | refine yaf ?_ | refine yae ?_ | refine zR ?_ | refine zD ?_ | refine zK ?_ | refine zB ?_ | refine zA ?_ | refine zS ?_ | refine zU ?_ | refine zV ?_ | refine zF ?_ | with_reducible refine yab ?_ | with_reducible refine yad ?_ | refine yaa ?_ | refine yac ?_ | refine yag ?_ | refine zT ?_ | refine zE ?_ | refine zX ?_))
      refine yaq rfl (fun h9 => absurd h9 (by simp; omega)) (fun _ => ?_)
      (repeat (first | refine zI ?_ | refine zL ?_ | refine zC ?_ | refine yaf ?_ | refine yae ?_ | refine zR ?_ | refine zK ?_ | refine zB ?_ | refine zA ?_ | refine zS ?_ | refine zU ?_ | refine zV ?_ | refine zF ?_ | with_reducible refine yab ?_ | with_reducible refine yad ?_ | refine yaa ?_ | refine yac ?_ | refine yag ?_ | refine zT ?_ | refine zE ?_ | refine zX ?_ | refine yam rfl rfl rfl rfl ?_ | refine yhg (ca) rfl rfl rfl rfl (ybn rfl rfl) rfl rfl rfl rfl rfl ?_))
      (repeat (first | with_reducible refine yad ?_ | with_reducible refine yab ?_ | refine yac ?_ | refine yae ?_ | refine yaa ?_))
      refine ybs (lf := lfB) mixed (by kernel_rfl) rfl ?_
      (repeat (first | refine zI ?_ | refine zL ?_ | refine zC ?_ | refine zK ?_ | refine zB ?_ | refine zA ?_ | refine zS ?_ | refine zU ?_ | refine zV ?_ | refine zF ?_ | refine zX ?_ | refine yaf ?_ | refine yam rfl rfl rfl rfl ?_ | refine yal rfl rfl (binarySigns_con) rfl rfl ?_ | refine ybd tok rfl rfl rfl (by omega) (yds hw) rfl rfl ?_))
      refine yec (a := ba [32]) (b := ba w) rfl rfl (by rw [yaw, yaw]; simp; omega) rfl rfl ?_
      refine yec (a := ba [32] ++ ba w) (b := ba [32]) rfl rfl (by rw [ByteArray.size_append, yaw, yaw]; simp; omega) rfl rfl ?_
      refine yhg (yas true es names _ (ba [32] ++ ba w ++ ba [32]) (by rw [ByteArray.size_append, ByteArray.size_append, yaw, yaw]; have := hbla (ybf (ydo t.1) a); rw [ycu]; simp only [List.length_append, List.length_cons, List.length_nil]; omega)) rfl rfl rfl rfl (ybn rfl rfl) rfl rfl rfl rfl rfl ?_
      (repeat (first | refine zI ?_ | refine zL ?_ | refine zC ?_ | refine yaf ?_ | refine yae ?_ | refine zR ?_ | refine zD ?_ | refine zK ?_ | refine zB ?_ | refine zA ?_ | refine zS ?_ | refine zU ?_ | refine zV ?_ | refine zF ?_ | with_reducible refine yab ?_ | with_reducible refine yad ?_ | refine yaa ?_ | refine yac ?_ | refine yag ?_ | refine zT ?_ | refine zE ?_ | refine zX ?_ | refine yam rfl rfl rfl rfl ?_ | refine yhg (cb) rfl rfl rfl rfl (ybn rfl rfl) rfl rfl rfl rfl rfl ?_))
      rw [ee, er]
      refine yau ?_
      refine ends_defer (h' := []) (args0 := [.lp 1001 0, yff (ba [41])]) (hm := wrH true es names (l ++ bl (ba [40]) ++ yax false names (Ex.bi t a b))) (hm' := wrH true es names (l ++ bl (ba [40]) ++ yax false names (Ex.bi t a b) ++ bl (ba [41]))) [(1001, 1001), (1003, 1003)] rfl rfl rfl ⟨rfl, rfl, trivial⟩ (w_writeString_K true es names _ (ba [41]) (by rw [yaw, ycu]; simp only [List.length_append, List.length_cons, List.length_nil]; omega)) rfl rfl rfl rfl (by rw [renO_wr]; exact ybn rfl rfl) rfl (fun j ob hj hob => by cases hob) rfl (ybk _) (fun id o ho => ?_)
      rw [show l ++ brT true (yax false names (Ex.bi t a b)) = l ++ bl (ba [40]) ++ yax false names (Ex.bi t a b) ++ bl (ba [41]) by rw [ycu, ycu]; simp [brT]] at ho
      exact ho
  · have hlo2 : ybf level (.bi t a b) = false := decide_eq_false hlo
    rw [hlo2]
    by_cases h3 : ydo t.1 = 3
    · have ca := iha (k + 1) 4 u l (by omega) hata (by omega)
      have cb := ihb (k + 1 + a.fl.length) (3 + 1) true (l ++ brT (ybf 4 a) (yax false names a) ++ bl (ba [32] ++ ba w ++ ba [32])) (by omega) hatb (by simp only [yhs, ycu]; have := hbla (ybf 4 a); simp only [List.length_append, List.length_cons, List.length_nil]; omega)
      have ee : l ++ brT (ybf 4 a) (yax false names a) ++ bl (ba [32] ++ ba w ++ ba [32]) ++ brT (ybf (3 + 1) b) (yax false names b) = l ++ yax false names (.bi t a b) := by
        simp only [yhs, ycu]
        simp only [yax, Bool.false_or, yih, h3, if_true, hwE]
        simp
      have hblb := ykp hn hEb hab false
      have hbl2 := ycv hn false (.bi t a b) ⟨ht, hEa, hEb⟩ hab0
      refine ycw tok Tryz.func32 rfl rfl Tryz.ntmps32 Tryz.results32 rfl (yhz rfl) ?_
      show A _ _ _ _ (S _ _)
      (repeat (first | refine zI ?_ | refine zL ?_ | refine zC ?_ | refine yaf ?_ | refine yae ?_ | refine zR ?_ | refine zD ?_ | refine zK ?_ | refine zB ?_ | refine zA ?_ | refine zS ?_ | refine zU ?_ | refine zV ?_ | refine zF ?_ | with_reducible refine yab ?_ | with_reducible refine yad ?_ | refine yaa ?_ | refine yac ?_ | refine yag ?_ | refine zT ?_ | refine zE ?_ | refine zX ?_ | refine yam rfl rfl rfl rfl ?_ | refine ybd tok rfl rfl rfl (by omega) (ycb hk) rfl rfl ?_ | refine yal rfl rfl (ycr t.1) rfl rfl ?_))
      rw [h3]
      (repeat (first | refine zI ?_ | refine zL ?_ | refine zC ?_ | refine yaf ?_ | refine yae ?_ | refine zR ?_ | refine zD ?_ | refine zK ?_ | refine zB ?_ | refine zA ?_ | refine zS ?_ | refine zU ?_ | refine zV ?_ | refine zF ?_ | with_reducible refine yab ?_ | with_reducible refine yad ?_ | refine yaa ?_ | refine yac ?_ | refine yag ?_ | refine zT ?_ | refine zE ?_ | refine zX ?_))
      refine yaq rfl (fun h9 => absurd h9 (by simp; omega)) (fun _ => ?_)
      (repeat (first | refine zI ?_ | refine zL ?_ | refine zC ?_ | refine yaf ?_ | refine yae ?_ | refine zR ?_ | refine zD ?_ | refine zK ?_ | refine zB ?_ | refine zA ?_ | refine zS ?_ | refine zU ?_ | refine zV ?_ | refine zF ?_ | with_reducible refine yab ?_ | with_reducible refine yad ?_ | refine yaa ?_ | refine yac ?_ | refine yag ?_ | refine zT ?_ | refine zE ?_ | refine zX ?_))
      (repeat (first | refine zI ?_ | refine zL ?_ | refine zC ?_ | refine yaf ?_ | refine yae ?_ | refine zR ?_ | refine zK ?_ | refine zB ?_ | refine zA ?_ | refine zS ?_ | refine zU ?_ | refine zV ?_ | refine zF ?_ | with_reducible refine yab ?_ | with_reducible refine yad ?_ | refine yaa ?_ | refine yac ?_ | refine yag ?_ | refine zT ?_ | refine zE ?_ | refine zX ?_ | refine yam rfl rfl rfl rfl ?_ | refine yhg (ca) rfl rfl rfl rfl (ybn rfl rfl) rfl rfl rfl rfl rfl ?_))
      (repeat (first | with_reducible refine yad ?_ | with_reducible refine yab ?_ | refine yac ?_ | refine yae ?_ | refine yaa ?_))
      refine ybs (lf := lfB) mixed (by kernel_rfl) rfl ?_
      (repeat (first | refine zI ?_ | refine zL ?_ | refine zC ?_ | refine zK ?_ | refine zB ?_ | refine zA ?_ | refine zS ?_ | refine zU ?_ | refine zV ?_ | refine zF ?_ | refine zX ?_ | refine yaf ?_ | refine yam rfl rfl rfl rfl ?_ | refine yal rfl rfl (binarySigns_con) rfl rfl ?_ | refine ybd tok rfl rfl rfl (by omega) (yds hw) rfl rfl ?_))
      refine yec (a := ba [32]) (b := ba w) rfl rfl (by rw [yaw, yaw]; simp; omega) rfl rfl ?_
      refine yec (a := ba [32] ++ ba w) (b := ba [32]) rfl rfl (by rw [ByteArray.size_append, yaw, yaw]; simp; omega) rfl rfl ?_
      refine yhg (yas true es names _ (ba [32] ++ ba w ++ ba [32]) (by rw [ByteArray.size_append, ByteArray.size_append, yaw, yaw]; have := hbla (ybf 4 a); simp only [List.length_append, List.length_cons, List.length_nil]; omega)) rfl rfl rfl rfl (ybn rfl rfl) rfl rfl rfl rfl rfl ?_
      (repeat (first | refine zI ?_ | refine zL ?_ | refine zC ?_ | refine yaf ?_ | refine yae ?_ | refine zR ?_ | refine zD ?_ | refine zK ?_ | refine zB ?_ | refine zA ?_ | refine zS ?_ | refine zU ?_ | refine zV ?_ | refine zF ?_ | with_reducible refine yab ?_ | with_reducible refine yad ?_ | refine yaa ?_ | refine yac ?_ | refine yag ?_ | refine zT ?_ | refine zE ?_ | refine zX ?_ | refine yam rfl rfl rfl rfl ?_ | refine yhg (cb) rfl rfl rfl rfl (ybn rfl rfl) rfl rfl rfl rfl rfl ?_))
      rw [ee, er]
      refine yau ?_
      exact ⟨_, rfl, ybk _, yba (ybn rfl rfl)⟩
    · have ca := iha (k + 1) (ydo t.1) u l (by omega) hata (by omega)
      have cb := ihb (k + 1 + a.fl.length) ((ydo t.1) + 1) true (l ++ brT (ybf (ydo t.1) a) (yax false names a) ++ bl (ba [32] ++ ba w ++ ba [32])) (by omega) hatb (by simp only [yhs, ycu]; have := hbla (ybf (ydo t.1) a); simp only [List.length_append, List.length_cons, List.length_nil]; omega)
      have ee : l ++ brT (ybf (ydo t.1) a) (yax false names a) ++ bl (ba [32] ++ ba w ++ ba [32]) ++ brT (ybf ((ydo t.1) + 1) b) (yax false names b) = l ++ yax false names (.bi t a b) := by
        simp only [yhs, ycu]
        simp only [yax, Bool.false_or, yih, h3, if_false, hwE]
        simp
      have hblb := ykp hn hEb hab false
      have hbl2 := ycv hn false (.bi t a b) ⟨ht, hEa, hEb⟩ hab0
      refine ycw tok Tryz.func32 rfl rfl Tryz.ntmps32 Tryz.results32 rfl (yhz rfl) ?_
      show A _ _ _ _ (S _ _)
      (repeat (first | refine zI ?_ | refine zL ?_ | refine zC ?_ | refine yaf ?_ | refine yae ?_ | refine zR ?_ | refine zD ?_ | refine zK ?_ | refine zB ?_ | refine zA ?_ | refine zS ?_ | refine zU ?_ | refine zV ?_ | refine zF ?_ | with_reducible refine yab ?_ | with_reducible refine yad ?_ | refine yaa ?_ | refine yac ?_ | refine yag ?_ | refine zT ?_ | refine zE ?_ | refine zX ?_ | refine yam rfl rfl rfl rfl ?_ | refine ybd tok rfl rfl rfl (by omega) (ycb hk) rfl rfl ?_ | refine yal rfl rfl (ycr t.1) rfl rfl ?_))
      skip
      (repeat (first | refine zI ?_ | refine zL ?_ | refine zC ?_ | refine yaf ?_ | refine yae ?_ | refine zR ?_ | refine zD ?_ | refine zK ?_ | refine zB ?_ | refine zA ?_ | refine zS ?_ | refine zU ?_ | refine zV ?_ | refine zF ?_ | with_reducible refine yab ?_ | with_reducible refine yad ?_ | refine yaa ?_ | refine yac ?_ | refine yag ?_ | refine zT ?_ | refine zE ?_ | refine zX ?_))
      refine yaq rfl (fun h9 => absurd h9 (by simp; omega)) (fun _ => ?_)
      (repeat (first | refine zI ?_ | refine zL ?_ | refine zC ?_ | refine yaf ?_ | refine yae ?_ | refine zR ?_ | refine zD ?_ | refine zK ?_ | refine zB ?_ | refine zA ?_ | refine zS ?_ | refine zU ?_ | refine zV ?_ | refine zF ?_ | with_reducible refine yab ?_ | with_reducible refine yad ?_ | refine yaa ?_ | refine yac ?_ | refine yag ?_ | refine zT ?_ | refine zE ?_ | refine zX ?_))
      refine yaq rfl (fun h9 => absurd h9 (by simp; omega)) (fun _ => ?_)
      (repeat (first | refine zI ?_ | refine zL ?_ | refine zC ?_ | refine yaf ?_ | refine yae ?_ | refine zR ?_ | refine zD ?_ | refine zK ?_ | refine zB ?_ | refine zA ?_ | refine zS ?_ | refine zU ?_ | refine zV ?_ | refine zF ?_ | with_reducible refine yab ?_ | with_reducible refine yad ?_ | refine yaa ?_ | refine yac ?_ | refine yag ?_ | refine zT ?_ | refine zE ?_ | refine zX ?_))
      refine yaq rfl (fun h9 => absurd h9 (by simp; omega)) (fun _ => ?_)
      (repeat (first | refine zI ?_ | refine zL ?_ | refine zC ?_ | refine yaf ?_ | refine yae ?_ | refine zR ?_ | refine zD ?_ | refine zK ?_ | refine zB ?_ | refine zA ?_ | refine zS ?_ | refine zU ?_ | refine zV ?_ | refine zF ?_ | with_reducible refine yab ?_ | with_reducible refine yad ?_ | refine yaa ?_ | refine yac ?_ | refine yag ?_ | refine zT ?_ | refine zE ?_ | refine zX ?_))
      refine yaq rfl (fun h9 => absurd h9 (by simp; omega)) (fun _ => ?_)
      (repeat (first | refine zI ?_ | refine zL ?_ | refine zC ?_ | refine yaf ?_ | refine yae ?_ | refine zR ?_ | refine zD ?_ | refine zK ?_ | refine zB ?_ | refine zA ?_ | refine zS ?_ | refine zU ?_ | refine zV ?_ | refine zF ?_ | with_reducible refine yab ?_ | with_reducible refine yad ?_ | refine yaa ?_ | refine yac ?_ | refine yag ?_ | refine zT ?_ | refine zE ?_ | refine zX ?_))
      refine yaq rfl (fun h9 => absurd h9 (by simp; omega)) (fun _ => ?_)
      (repeat (first | refine zI ?_ | refine zL ?_ | refine zC ?_ | refine yaf ?_ | refine yae ?_ | refine zR ?_ | refine zK ?_ | refine zB ?_ | refine zA ?_ | refine zS ?_ | refine zU ?_ | refine zV ?_ | refine zF ?_ | with_reducible refine yab ?_ | with_reducible refine yad ?_ | refine yaa ?_ | refine yac ?_ | refine yag ?_ | refine zT ?_ | refine zE ?_ | refine zX ?_ | refine yam rfl rfl rfl rfl ?_ | refine yhg (ca) rfl rfl rfl rfl (ybn rfl rfl) rfl rfl rfl rfl rfl ?_))
      (repeat (first | with_reducible refine yad ?_ | with_reducible refine yab ?_ | refine yac ?_ | refine yae ?_ | refine yaa ?_))
      refine ybs (lf := lfB) mixed (by kernel_rfl) rfl ?_
      (repeat (first | refine zI ?_ | refine zL ?_ | refine zC ?_ | refine zK ?_ | refine zB ?_ | refine zA ?_ | refine zS ?_ | refine zU ?_ | refine zV ?_ | refine zF ?_ | refine zX ?_ | refine yaf ?_ | refine yam rfl rfl rfl rfl ?_ | refine yal rfl rfl (binarySigns_con) rfl rfl ?_ | refine ybd tok rfl rfl rfl (by omega) (yds hw) rfl rfl ?_))
      refine yec (a := ba [32]) (b := ba w) rfl rfl (by rw [yaw, yaw]; simp; omega) rfl rfl ?_
      refine yec (a := ba [32] ++ ba w) (b := ba [32]) rfl rfl (by rw [ByteArray.size_append, yaw, yaw]; simp; omega) rfl rfl ?_
      refine yhg (yas true es names _ (ba [32] ++ ba w ++ ba [32]) (by rw [ByteArray.size_append, ByteArray.size_append, yaw, yaw]; have := hbla (ybf (ydo t.1) a); simp only [List.length_append, List.length_cons, List.length_nil]; omega)) rfl rfl rfl rfl (ybn rfl rfl) rfl rfl rfl rfl rfl ?_
      (repeat (first | refine zI ?_ | refine zL ?_ | refine zC ?_ | refine yaf ?_ | refine yae ?_ | refine zR ?_ | refine zD ?_ | refine zK ?_ | refine zB ?_ | refine zA ?_ | refine zS ?_ | refine zU ?_ | refine zV ?_ | refine zF ?_ | with_reducible refine yab ?_ | with_reducible refine yad ?_ | refine yaa ?_ | refine yac ?_ | refine yag ?_ | refine zT ?_ | refine zE ?_ | refine zX ?_ | refine yam rfl rfl rfl rfl ?_ | refine yhg (cb) rfl rfl rfl rfl (ybn rfl rfl) rfl rfl rfl rfl rfl ?_))
      rw [ee, er]
      refine yau ?_
      exact ⟨_, rfl, ybk _, yba (ybn rfl rfl)⟩
theorem brT0 (x : Bs) : brT false x = x := rfl
theorem write_tr {t : Tm} {a b c : Ex} (hes : es.length ≤ 1000) (hn : ∀ w ∈ names, w.length ≤ 24) (ht : ar t.1 = 3) (hEa : a.ok) (hEb : b.ok) (hEc : c.ok) (hab0 : ∀ x ∈ (Ex.tr t a b c).fl, yep names.length x = true) (iha : yhj es names a) (ihb : yhj es names b) (ihc : yhj es names c) : yhj es names (.tr t a b c) := by
  intro k level u l hlev hat hl
  have haa : ∀ x ∈ a.fl, yep names.length x = true := fun x hx => hab0 x (by simp [Ex.fl, hx])
  have hab : ∀ x ∈ b.fl, yep names.length x = true := fun x hx => hab0 x (by simp [Ex.fl, hx])
  have hk := hat.head rfl
  have hbd := hat.bound
  have hlt : k < es.length := (List.getElem?_eq_some_iff.1 hk).1
  obtain ⟨hata, hat2⟩ := AtE.tail (show (t :: (a.fl ++ (b.fl ++ c.fl))) <+: es.drop k from hat)
  have hat3 : (b.fl ++ c.fl) <+: es.drop (k + 1 + a.fl.length) := hat2
  have hatb : AtE es (k + 1 + a.fl.length) b := (List.prefix_append _ _).trans hat3
  have hatc : AtE es (k + 1 + a.fl.length + b.fl.length) c := by
    obtain ⟨p, hp⟩ := hat3
    refine ⟨p, ?_⟩
    rw [← List.drop_drop (i := b.fl.length), ← hp]
    simp
  have h0 : ydo t.1 = 0 := by rw [ar_tr ht]; decide
  have hlb : ybf 0 b = false := by simp [ybf]
  have hlc : ybf 0 c = false := by simp [ybf]
  have er : k + 1 + a.fl.length + b.fl.length + c.fl.length = k + (Ex.tr t a b c).fl.length := by simp only [Ex.fl, List.length_cons, List.length_append]; omega
  have hll : l.length + 40 * (Ex.tr t a b c).fl.length ≤ 900000 := hl
  simp only [Ex.fl, List.length_cons, List.length_append] at hl hbd hll
  have hbla : ∀ c, (brT c (yax false names a)).length ≤ 34 * a.fl.length := ykp hn hEa haa
  have hblb := (ycv hn false b hEb hab).1
  by_cases hlo : ydo t.1 < level
  · have hlo2 : ybf level (.tr t a b c) = true := decide_eq_true hlo
    rw [hlo2]
    have ca := iha (k + 1) 1 true (l ++ bl (ba [40])) (by omega) hata (by simp only [ycu]; simp only [List.length_append, List.length_cons, List.length_nil]; omega)
    have cb := ihb (k + 1 + a.fl.length) 0 true ((l ++ bl (ba [40])) ++ brT (ybf 1 a) (yax false names a) ++ bl (ba [32, 63, 32])) (by omega) hatb (by simp only [ycu]; have := hbla (ybf 1 a); simp only [List.length_append, List.length_cons, List.length_nil]; omega)
    have cc := ihc (k + 1 + a.fl.length + b.fl.length) 0 true ((l ++ bl (ba [40])) ++ brT (ybf 1 a) (yax false names a) ++ bl (ba [32, 63, 32]) ++ yax false names b ++ bl (ba [32, 58, 32])) (by omega) hatc (by simp only [ycu]; have := hbla (ybf 1 a); have := hblb; simp only [List.length_append, List.length_cons, List.length_nil]; omega)
    rw [hlb] at cb
    rw [hlc] at cc
    simp only [brT0] at cb cc
    have ee : (l ++ bl (ba [40])) ++ brT (ybf 1 a) (yax false names a) ++ bl (ba [32, 63, 32]) ++ yax false names b ++ bl (ba [32, 58, 32]) ++ yax false names c = (l ++ bl (ba [40])) ++ yax false names (.tr t a b c) := by
      simp only [ycu]
      simp only [yax, Bool.false_or, brT0]
      simp
    have hbl2 := ycv hn false (.tr t a b c) ⟨ht, hEa, hEb, hEc⟩ hab0
    refine conM_ofD tok Tryz.func32 rfl rfl Tryz.ntmps32 Tryz.results32 rfl (yhz rfl) ?_
    show AF _ _ _ _ (S _ _)
    refine yej (ydy ?_)
    refine yah (lf := lfT) rfl ?_
    (repeat (first | refine zI ?_ | refine zL ?_ | refine zC ?_ | refine zK ?_ | refine zB ?_ | refine zA ?_ | refine zS ?_ | refine zU ?_ | refine zV ?_ | refine zF ?_ | refine zX ?_ | refine yaf ?_))
    show AF _ _ _ _ (S _ _)
    refine yej (ydy ?_)
    refine yah (lf := lfT) rfl ?_
    (repeat (first | refine zI ?_ | refine zL ?_ | refine zC ?_ | refine zK ?_ | refine zB ?_ | refine zA ?_ | refine zS ?_ | refine zU ?_ | refine zV ?_ | refine zF ?_ | refine zX ?_ | refine yaf ?_ | refine yam rfl rfl rfl rfl ?_ | refine ybd tok rfl rfl rfl (by omega) (ycb hk) rfl rfl ?_))
    show AF _ _ _ _ (S _ _)
    refine yej (ydy ?_)
    refine yah (lf := lfT) rfl ?_
    (repeat (first | refine zI ?_ | refine zL ?_ | refine zC ?_ | refine zK ?_ | refine zB ?_ | refine zA ?_ | refine zS ?_ | refine zU ?_ | refine zV ?_ | refine zF ?_ | refine zX ?_ | refine yaf ?_ | refine yal rfl rfl (ycr t.1) rfl rfl ?_))
    rw [h0]
    show AF _ _ _ _ (S _ _)
    refine yej ?_
    refine yej (ydy ?_)
    refine yah (lf := lfT) rfl ?_
    (repeat (first | refine zI ?_ | refine zL ?_ | refine zC ?_ | refine zK ?_ | refine zB ?_ | refine zA ?_ | refine zS ?_ | refine zU ?_ | refine zV ?_ | refine zF ?_ | refine zX ?_ | refine yaf ?_))
    show AF _ _ _ _ (S _ _)
    refine AF_cond rfl (fun _ => ?_) (fun h9 => absurd h9 (by simp; omega))
    refine yej (ydy ?_)
    refine yah (lf := lfT) rfl ?_
    (repeat (first | refine zI ?_ | refine zL ?_ | refine zC ?_ | refine zK ?_ | refine zB ?_ | refine zA ?_ | refine zS ?_ | refine zU ?_ | refine zV ?_ | refine zF ?_ | refine zX ?_ | refine yaf ?_ | refine yam rfl rfl rfl rfl ?_ | refine yhg (yas u es names l (ba [40]) (by rw [yaw]; simp; omega)) rfl rfl rfl rfl (ybn rfl rfl) rfl rfl rfl rfl rfl ?_))
    show AF _ _ _ _ (S _ _)
    refine AF_region_defer (lf := lfT) 3 rfl rfl rfl rfl rfl rfl (fun d h => by cases h) ?_
    (repeat (first | refine zI ?_ | refine zL ?_ | refine zC ?_ | refine zK ?_ | refine zB ?_ | refine zA ?_ | refine zS ?_ | refine zU ?_ | refine zV ?_ | refine zF ?_ | refine zX ?_ | refine yaf ?_ | refine yam rfl rfl rfl rfl ?_))
    refine ⟨rfl, _, _, _, ⟨_, Tryz.func66, rfl, rfl⟩, rfl, rfl, fun x hx => low_none rfl hx, ?_⟩
    show Lex _ _ _ _ _ [] _
    refine .nil ?_
    show A _ _ _ _ _
    refine A_weak (s' := S [(0, .lp 1001 0), (1, i64 k), (7, i64 t.1), (8, i64 (0 : Nat)), (1000000, .lp 1001 0), (1000001, yff (ba [41]))] (wrH true es names (l ++ bl (ba [40])))) ?_ ⟨subF_look ⟨rfl, rfl, rfl, rfl, rfl, rfl, trivial⟩, fun id x h => h⟩
    (repeat (first | refine zI ?_ | refine zL ?_ | refine zC ?_ | refine yaf ?_ | refine yae ?_ | refine zR ?_ | refine zD ?_ | refine zK ?_ | refine zB ?_ | refine zA ?_ | refine zS ?_ | refine zU ?_ | refine zV ?_ | refine zF ?_ | with_reducible refine yab ?_ | with_reducible refine yad ?_ | refine yaa ?_ | refine yac ?_ | refine yag ?_ | refine zT ?_ | refine zE ?_ | refine zX ?_))
    (repeat (first | refine zI ?_ | refine zL ?_ | refine zC ?_ | refine yaf ?_ | refine yae ?_ | refine zR ?_ | refine zD ?_ | refine zK ?_ | refine zB ?_ | refine zA ?_ | refine zS ?_ | refine zU ?_ | refine zV ?_ | refine zF ?_ | with_reducible refine yab ?_ | with_reducible refine yad ?_ | refine yaa ?_ | refine yac ?_ | refine yag ?_ | refine zT ?_ | refine zE ?_ | refine zX ?_ | refine yam rfl rfl rfl rfl ?_ | refine yhg (ca) rfl rfl rfl rfl (ybn rfl rfl) rfl rfl rfl rfl rfl ?_ | refine yhg (yas true es names ((l ++ bl (ba [40])) ++ brT (ybf 1 a) (yax false names a)) (ba [32, 63, 32]) (by rw [yaw]; (try simp only [ycu]); have := hbla (ybf 1 a); have := hblb; simp only [List.length_append, List.length_cons, List.length_nil]; omega)) rfl rfl rfl rfl (ybn rfl rfl) rfl rfl rfl rfl rfl ?_ | refine yhg (cb) rfl rfl rfl rfl (ybn rfl rfl) rfl rfl rfl rfl rfl ?_ | refine yhg (yas true es names ((l ++ bl (ba [40])) ++ brT (ybf 1 a) (yax false names a) ++ bl (ba [32, 63, 32]) ++ yax false names b) (ba [32, 58, 32]) (by rw [yaw]; (try simp only [ycu]); have := hbla (ybf 1 a); have := hblb; simp only [List.length_append, List.length_cons, List.length_nil]; omega)) rfl rfl rfl rfl (ybn rfl rfl) rfl rfl rfl rfl rfl ?_ | refine yhg (cc) rfl rfl rfl rfl (ybn rfl rfl) rfl rfl rfl rfl rfl ?_))
    rw [ee, er]
    refine yau ?_
    refine ends_defer (h' := []) (args0 := [.lp 1001 0, yff (ba [41])]) (hm := wrH true es names (l ++ bl (ba [40]) ++ yax false names (Ex.tr t a b c))) (hm' := wrH true es names (l ++ bl (ba [40]) ++ yax false names (Ex.tr t a b c) ++ bl (ba [41]))) [(1001, 1001), (1003, 1003)] rfl rfl rfl ⟨rfl, rfl, trivial⟩ (w_writeString_K true es names _ (ba [41]) (by rw [yaw, ycu]; simp only [List.length_append, List.length_cons, List.length_nil]; omega)) rfl rfl rfl rfl (by rw [renO_wr]; exact ybn rfl rfl) rfl (fun j ob hj hob => by cases hob) rfl (ybk _) (fun id o ho => ?_)
    rw [show l ++ brT true (yax false names (Ex.tr t a b c)) = l ++ bl (ba [40]) ++ yax false names (Ex.tr t a b c) ++ bl (ba [41]) by rw [ycu, ycu]; simp [brT]] at ho
    exact ho
  · have hlo2 : ybf level (.tr t a b c) = false := decide_eq_false hlo
    rw [hlo2]
    have ca := iha (k + 1) 1 u l (by omega) hata (by omega)
    have cb := ihb (k + 1 + a.fl.length) 0 true (l ++ brT (ybf 1 a) (yax false names a) ++ bl (ba [32, 63, 32])) (by omega) hatb (by simp only [ycu]; have := hbla (ybf 1 a); simp only [List.length_append, List.length_cons, List.length_nil]; omega)
    have cc := ihc (k + 1 + a.fl.length + b.fl.length) 0 true (l ++ brT (ybf 1 a) (yax false names a) ++ bl (ba [32, 63, 32]) ++ yax false names b ++ bl (ba [32, 58, 32])) (by omega) hatc (by simp only [ycu]; have := hbla (ybf 1 a); have := hblb; simp only [List.length_append, List.length_cons, List.length_nil]; omega)
    rw [hlb] at cb
    rw [hlc] at cc
    simp only [brT0] at cb cc
    have ee : l ++ brT (ybf 1 a) (yax false names a) ++ bl (ba [32, 63, 32]) ++ yax false names b ++ bl (ba [32, 58, 32]) ++ yax false names c = l ++ yax false names (.tr t a b c) := by
      simp only [ycu]
      simp only [yax, Bool.false_or, brT0]
      simp
    have hbl2 := ycv hn false (.tr t a b c) ⟨ht, hEa, hEb, hEc⟩ hab0
    refine ycw tok Tryz.func32 rfl rfl Tryz.ntmps32 Tryz.results32 rfl (yhz rfl) ?_
    show A _ _ _ _ (S _ _)
    (repeat (first | refine zI ?_ | refine zL ?_ | refine zC ?_ | refine yaf ?_ | refine yae ?_ | refine zR ?_ | refine zD ?_ | refine zK ?_ | refine zB ?_ | refine zA ?_ | refine zS ?_ | refine zU ?_ | refine zV ?_ | refine zF ?_ | with_reducible refine yab ?_ | with_reducible refine yad ?_ | refine yaa ?_ | refine yac ?_ | refine yag ?_ | refine zT ?_ | refine zE ?_ | refine zX ?_ | refine yam rfl rfl rfl rfl ?_ | refine ybd tok rfl rfl rfl (by omega) (ycb hk) rfl rfl ?_ | refine yal rfl rfl (ycr t.1) rfl rfl ?_))
    rw [h0]
    (repeat (first | refine zI ?_ | refine zL ?_ | refine zC ?_ | refine yaf ?_ | refine yae ?_ | refine zR ?_ | refine zD ?_ | refine zK ?_ | refine zB ?_ | refine zA ?_ | refine zS ?_ | refine zU ?_ | refine zV ?_ | refine zF ?_ | with_reducible refine yab ?_ | with_reducible refine yad ?_ | refine yaa ?_ | refine yac ?_ | refine yag ?_ | refine zT ?_ | refine zE ?_ | refine zX ?_))
    refine yaq rfl (fun h9 => absurd h9 (by simp; omega)) (fun _ => ?_)
    (repeat (first | refine zI ?_ | refine zL ?_ | refine zC ?_ | refine yaf ?_ | refine yae ?_ | refine zR ?_ | refine zD ?_ | refine zK ?_ | refine zB ?_ | refine zA ?_ | refine zS ?_ | refine zU ?_ | refine zV ?_ | refine zF ?_ | with_reducible refine yab ?_ | with_reducible refine yad ?_ | refine yaa ?_ | refine yac ?_ | refine yag ?_ | refine zT ?_ | refine zE ?_ | refine zX ?_))
    (repeat (first | refine zI ?_ | refine zL ?_ | refine zC ?_ | refine yaf ?_ | refine yae ?_ | refine zR ?_ | refine zD ?_ | refine zK ?_ | refine zB ?_ | refine zA ?_ | refine zS ?_ | refine zU ?_ | refine zV ?_ | refine zF ?_ | with_reducible refine yab ?_ | with_reducible refine yad ?_ | refine yaa ?_ | refine yac ?_ | refine yag ?_ | refine zT ?_ | refine zE ?_ | refine zX ?_ | refine yam rfl rfl rfl rfl ?_ | refine yhg (ca) rfl rfl rfl rfl (ybn rfl rfl) rfl rfl rfl rfl rfl ?_ | refine yhg (yas true es names (l ++ brT (ybf 1 a) (yax false names a)) (ba [32, 63, 32]) (by rw [yaw]; (try simp only [ycu]); have := hbla (ybf 1 a); have := hblb; simp only [List.length_append, List.length_cons, List.length_nil]; omega)) rfl rfl rfl rfl (ybn rfl rfl) rfl rfl rfl rfl rfl ?_ | refine yhg (cb) rfl rfl rfl rfl (ybn rfl rfl) rfl rfl rfl rfl rfl ?_ | refine yhg (yas true es names (l ++ brT (ybf 1 a) (yax false names a) ++ bl (ba [32, 63, 32]) ++ yax false names b) (ba [32, 58, 32]) (by rw [yaw]; (try simp only [ycu]); have := hbla (ybf 1 a); have := hblb; simp only [List.length_append, List.length_cons, List.length_nil]; omega)) rfl rfl rfl rfl (ybn rfl rfl) rfl rfl rfl rfl rfl ?_ | refine yhg (cc) rfl rfl rfl rfl (ybn rfl rfl) rfl rfl rfl rfl rfl ?_))
    rw [ee, er]
    refine yau ?_
    exact ⟨_, rfl, ybk _, yba (ybn rfl rfl)⟩
theorem write_all (hes : es.length ≤ 1000) (hn : ∀ w ∈ names, w.length ≤ 24) : ∀ (E : Ex), E.ok → (∀ x ∈ E.fl, yep names.length x = true) → yhj es names E
  | .lf t, hE, ha => write_lf hes hn hE (ha t (by simp [Ex.fl]))
  | .un t a, hE, ha => write_un hes hn hE.1 hE.2 (fun x hx => ha x (by simp [Ex.fl, hx])) (write_all hes hn a hE.2 fun x hx => ha x (by simp [Ex.fl, hx]))
  | .bi t a b, hE, ha => write_bi hes hn hE.1 hE.2.1 hE.2.2 ha (write_all hes hn a hE.2.1 fun x hx => ha x (by simp [Ex.fl, hx])) (write_all hes hn b hE.2.2 fun x hx => ha x (by simp [Ex.fl, hx]))
  | .tr t a b c, hE, ha => write_tr hes hn hE.1 hE.2.1 hE.2.2.1 hE.2.2.2 ha (write_all hes hn a hE.2.1 fun x hx => ha x (by simp [Ex.fl, hx])) (write_all hes hn b hE.2.2.1 fun x hx => ha x (by simp [Ex.fl, hx])) (write_all hes hn c hE.2.2.2 fun x hx => ha x (by simp [Ex.fl, hx]))
end
end Go.Proofs.YtcpgpiabeimefaaGreatDoor
set_option linter.unusedVariables false
set_option maxRecDepth 100000
set_option maxHeartbeats 4000000
namespace Go.Proofs.YtcpgpiabeimefaaGreatDoor
open Go.RowKit
def formatA (q : Bs × Int) : AV := .tup [yff (ba q.1), i64 q.2]
theorem formatX_bad {nm : Bs → Bool} {names : List Bs} {e : List Tm} (h : ¬ (ydw nm names = true ∧ ycp e names.length = true)) : formatX nm names e = ([], 7) := by rw [formatX, if_neg h]
theorem formatX_good {nm : Bs → Bool} {names : List Bs} {e : List Tm} (h1 : ydw nm names = true) (h2 : ycp e names.length = true) : formatX nm names e = (ydn false names e, 0) := by rw [formatX, if_pos ⟨h1, h2⟩]
theorem good_len {names : List Bs} (h : ydw nmW names = true) : ∀ w ∈ names, w.length ≤ 24 := fun w hw => (nmW_spec ((goodL_spec h).2.1 w hw)).1.1
theorem body_ne {names : List Bs} (h : ydw nmW names = true) {E : Ex} (hE : E.ok) (ha : ∀ t ∈ E.fl, yep names.length t = true) (al : Bool) : yax al names E ≠ [] := by
  obtain ⟨c, y, h1, _⟩ := wr_head (nmW_names.words h) (yht al E hE ha)
  rw [h1]
  simp
theorem format_con (e : List Tm) (names : List Bs) (he : e.length ≤ 1000000) (hl : names.length ≤ 1000) (hn : ∀ x ∈ names, x.length ≤ 1000) : Con Tryz.prog 15 [ybc e, ybe names] (formatA (formatX nmW names e)) := by
  refine ybt Tryz.func15 rfl rfl Tryz.ntmps15 Tryz.results15 rfl rfl ?_
  (repeat (first | refine zI ?_ | refine zL ?_ | refine zC ?_ | refine yaf ?_ | refine yae ?_ | refine zR ?_ | refine zD ?_ | refine zK ?_ | refine zB ?_ | refine zA ?_ | refine zS ?_ | refine zU ?_ | refine zV ?_ | refine zF ?_ | with_reducible refine yab ?_ | with_reducible refine yad ?_ | refine yaa ?_ | refine yac ?_ | refine yag ?_ | refine zT ?_ | refine zE ?_ | refine zX ?_ | refine yal rfl rfl (good_con names hl hn) rfl rfl ?_))
  refine ych 10 rfl (fun h1 => ?_) (fun h1 => ?_)
  · have h1 : ¬ ydw nmW names = true := by simpa using h1
    (repeat (first | refine zI ?_ | refine zL ?_ | refine zC ?_ | refine yaf ?_ | refine yae ?_ | refine zR ?_ | refine zD ?_ | refine zK ?_ | refine zB ?_ | refine zA ?_ | refine zS ?_ | refine zU ?_ | refine zV ?_ | refine zF ?_ | with_reducible refine yab ?_ | with_reducible refine yad ?_ | refine yaa ?_ | refine yac ?_ | refine yag ?_ | refine zT ?_ | refine zE ?_ | refine zX ?_))
    refine yau ?_; refine ⟨_, rfl, ?_⟩
    rw [formatX_bad (fun h => h1 h.1)]
    exact Frz.pure
  have h1 : ydw nmW names = true := by simpa using h1
  (repeat (first | refine zI ?_ | refine zL ?_ | refine zC ?_ | refine yaf ?_ | refine yae ?_ | refine zR ?_ | refine zD ?_ | refine zK ?_ | refine zB ?_ | refine zA ?_ | refine zS ?_ | refine zU ?_ | refine zV ?_ | refine zF ?_ | with_reducible refine yab ?_ | with_reducible refine yad ?_ | refine yaa ?_ | refine yac ?_ | refine yag ?_ | refine zT ?_ | refine zE ?_ | refine zX ?_ | refine yal rfl rfl (xvalid_con e names.length he) rfl rfl ?_))
  refine yaq rfl (fun h2 => ?_) (fun h2 => ?_)
  · have h2 : ¬ ycp e names.length = true := by simpa using h2
    (repeat (first | refine zI ?_ | refine zL ?_ | refine zC ?_ | refine yaf ?_ | refine yae ?_ | refine zR ?_ | refine zD ?_ | refine zK ?_ | refine zB ?_ | refine zA ?_ | refine zS ?_ | refine zU ?_ | refine zV ?_ | refine zF ?_ | with_reducible refine yab ?_ | with_reducible refine yad ?_ | refine yaa ?_ | refine yac ?_ | refine yag ?_ | refine zT ?_ | refine zE ?_ | refine zX ?_))
    refine yau ?_; refine ⟨_, rfl, ?_⟩
    rw [formatX_bad (fun h => h2 h.2)]
    exact Frz.pure
  have h2 : ycp e names.length = true := by simpa using h2
  obtain ⟨E, hp, hE, hfl, hlen, hargs⟩ := valid_spec h2
  have hnl := good_len h1
  have hw := write_all (es := e) (names := names) (by omega) hnl E hE (hfl ▸ hargs) 0 0 false [] (by omega) (by rw [AtE, hfl]; exact List.prefix_refl _) (by rw [hfl]; simp; omega)
  have hlo : ybf 0 E = false := by simp [ybf]
  rw [hlo, Nat.zero_add, hfl] at hw
  have hft : ydn false names e = yax false names E := by rw [ydn, hp]
  have hbl := (ycv hnl false E hE (hfl ▸ hargs)).1
  rw [hfl] at hbl
  have hne2 := body_ne h1 hE (hfl ▸ hargs) false
  (repeat (first | with_reducible refine yad ?_ | with_reducible refine yab ?_ | refine yac ?_ | refine yae ?_ | refine yaa ?_))
  refine yah (lf := lfT) rfl ?_
  (repeat (first | refine zC ?_ | refine zU ?_))
  refine L_allocT tok rfl rfl rfl rfl rfl rfl rfl ?_
  refine L_storeT tok rfl rfl rfl rfl rfl rfl (List.cons_ne_nil _ _) rfl rfl rfl ?_
  refine yaf ?_
  (repeat (first | with_reducible refine yad ?_ | with_reducible refine yab ?_ | refine yac ?_ | refine yae ?_ | refine yaa ?_))
  refine A_ownCT 6 1 1003 1 5 rfl rfl rfl rfl rfl ?_
  refine yah (lf := lfT) rfl ?_
  refine yfl [(1001, 6), (1003, 1003)] hw rfl rfl rfl rfl rfl rfl rfl (yak rfl (yak rfl yar)) rfl rfl rfl rfl rfl rfl ?_
  refine yaf ?_
  (repeat (first | with_reducible refine yad ?_ | with_reducible refine yab ?_ | refine yac ?_ | refine yae ?_ | refine yaa ?_)); refine yah (lf := lfT) rfl ?_
  refine zC ?_
  refine yfl [(1001, 6), (1003, 1003)] (w_len_con true e names _ (by simp only [brT, List.nil_append]; omega)) rfl rfl rfl rfl rfl rfl rfl (yak rfl (yak rfl yar)) rfl rfl rfl rfl rfl rfl ?_
  (repeat (first | refine zI ?_ | refine zL ?_ | refine zC ?_ | refine zK ?_ | refine zB ?_ | refine zA ?_ | refine zS ?_ | refine zU ?_ | refine zV ?_ | refine zF ?_ | refine zX ?_ | refine yaf ?_))
  (repeat (first | with_reducible refine yad ?_ | with_reducible refine yab ?_ | refine yac ?_ | refine yae ?_ | refine yaa ?_))
  refine yaq rfl (fun h9 => absurd h9 (by simp [brT]; omega)) (fun _ => ?_)
  (repeat (first | with_reducible refine yad ?_ | with_reducible refine yab ?_ | refine yac ?_ | refine yae ?_ | refine yaa ?_)); refine yah (lf := lfT) rfl ?_
  refine zC ?_
  refine yfl [(1001, 6), (1003, 1003)] (w_string_con true e names _ (by simpa [brT] using hne2) (by simp only [brT, List.nil_append]; omega)) rfl rfl rfl rfl rfl rfl rfl (yak rfl (yak rfl yar)) rfl rfl rfl rfl rfl rfl ?_
  (repeat (first | refine zI ?_ | refine zL ?_ | refine zC ?_ | refine zK ?_ | refine zB ?_ | refine zA ?_ | refine zS ?_ | refine zU ?_ | refine zV ?_ | refine zF ?_ | refine zX ?_ | refine yaf ?_))
  (repeat (first | with_reducible refine yad ?_ | with_reducible refine yab ?_ | refine yac ?_ | refine yae ?_ | refine yaa ?_))
  refine yau ?_; refine ⟨_, rfl, ?_⟩
  rw [formatX_good h1 h2, hft]
  exact Frz.pure
end Go.Proofs.YtcpgpiabeimefaaGreatDoor
