/- Part 17 of the texts under ExprStopsAtTheError: joined, with what it needs alone. -/
import Derived.Laws.StructEq
import Derived.Test.YtcpgpiabeimefaaDoorQ10
import Derived.Test.YtcpgpiabeimefaaDoorQ11
import Derived.Test.YtcpgpiabeimefaaDoorQ13
import Derived.Test.YtcpgpiabeimefaaDoorQ14
import Derived.Test.YtcpgpiabeimefaaDoorQ15
import Derived.Test.YtcpgpiabeimefaaDoorQ16
set_option linter.unusedVariables false
set_option maxRecDepth 100000
set_option maxHeartbeats 4000000
namespace Go.Proofs.YtcpgpiabeimefaaDoor
open Go.RowKit
def AtE (es : List Tm) (k : Nat) (E : Ex) : Prop := E.fl <+: es.drop k
theorem fl_pos (E : Ex) : 1 ≤ E.fl.length := by cases E <;> simp [Ex.fl] <;> omega
theorem AtE.bound {es : List Tm} {k : Nat} {E : Ex} (h : AtE es k E) : k + E.fl.length ≤ es.length := by
  have h1 := h.length_le
  have h2 := fl_pos E
  rw [List.length_drop] at h1
  omega
theorem AtE.head {es : List Tm} {k : Nat} {E : Ex} {t : Tm} {r : List Tm} (h : AtE es k E) (hE : E.fl = t :: r) : es[k]? = some t := by
  obtain ⟨p, hp⟩ := h
  rw [hE] at hp
  have := congrArg (fun l => l[0]?) hp
  simpa using this.symm
theorem AtE.tail {es : List Tm} {k : Nat} {t : Tm} {x y : List Tm} (h : (t :: (x ++ y)) <+: es.drop k) : x <+: es.drop (k + 1) ∧ y <+: es.drop (k + 1 + x.length) := by
  obtain ⟨p, hp⟩ := h
  have h1 : es.drop (k + 1) = x ++ (y ++ p) := by
    rw [← List.tail_drop, ← hp]; simp
  refine ⟨⟨y ++ p, h1.symm⟩, ⟨p, ?_⟩⟩
  rw [← List.drop_drop, h1]
  simp
def Writes (es : List Tm) (names : List Bs) (E : Ex) : Prop := ∀ (k level : Nat) (u : Bool) (l : Bs), level ≤ 6 → AtE es k E → l.length + 40 * E.fl.length ≤ 900000 → ConM Tryd.prog 19 [.lp 1001 0, i64 k, i64 level] (yal (wrH u es names l)) (i64 (k + E.fl.length : Nat)) (yal (wrH true es names (l ++ brT (ybk level E) (ybe false names E))))
section
variable {es : List Tm} {names : List Bs}
theorem blen (hn : ∀ w ∈ names, w.length ≤ 24) {E : Ex} (hE : E.ok) (ha : ∀ t ∈ E.fl, argB names.length t = true) (b : Bool) : (brT b (ybe false names E)).length ≤ 34 * E.fl.length := by
  have h1 := (ydm hn false E hE ha).1
  have h2 := brT_len b (ybe false names E)
  omega
theorem lev_un {op : Int} (h : op = 18 ∨ op = 19) : yej op = 6 := by rcases h with rfl | rfl <;> decide
theorem lev_bi {op : Int} (h : 30 ≤ op ∧ op ≤ 42) : 1 ≤ yej op ∧ yej op ≤ 5 := by
  obtain ⟨k, hk⟩ := fin_of (n := 13) h.1 (by omega)
  have := bin_op k
  rw [hk]
  exact ⟨this.2.2.1, this.2.2.2.1⟩
theorem ar_un {op : Int} (h : ar op = 1) : 18 ≤ op ∧ op ≤ 29 := by unfold ar at h; (repeat' split at h) <;> omega
theorem ar_bi {op : Int} (h : ar op = 2) : 30 ≤ op ∧ op ≤ 42 := by unfold ar at h; (repeat' split at h) <;> omega
theorem ar_tr {op : Int} (h : ar op = 3) : op = 43 := by unfold ar at h; (repeat' split at h) <;> omega
theorem bin_len : ∀ w ∈ binL, w.length ≤ 2 := by decide
theorem agg_len : ∀ w ∈ aggL, w.length ≤ 6 := by decide
theorem primary_agg {t : Tm} {a : Ex} {u : Bool} {l : Bs} {k : Nat} (ht : 20 ≤ t.1 ∧ t.1 ≤ 29) (hes : es.length ≤ 1000) (hn : ∀ w ∈ names, w.length ≤ 24) (hE : a.ok) (ha : ∀ x ∈ a.fl, argB names.length x = true) (hat : AtE es k (.un t a)) (iha : Writes es names a) (hl : l.length + 40 * (Ex.un t a).fl.length ≤ 900000) : ConM Tryd.prog 43 [.lp 1001 0, i64 k] (yal (wrH u es names l)) (i64 (k + (Ex.un t a).fl.length : Nat)) (yal (wrH true es names (l ++ ybe false names (.un t a)))) := by
  have hk := hat.head rfl
  have hbd := hat.bound
  have hlt : k < es.length := (List.getElem?_eq_some_iff.1 hk).1
  have hata : AtE es (k + 1) a := (AtE.tail (y := []) (by have h : (t :: a.fl) <+: es.drop k := hat; simpa using h)).1
  simp only [Ex.fl, List.length_cons] at hl hbd
  have hagg : aggB t.1 = true := by simp [aggB, ht.1, ht.2]
  obtain ⟨w, hw⟩ := getN' (l := aggL) (k := (t.1 - 20).toNat) (by show _ < 10; omega)
  have hwl := agg_len w (List.mem_of_getElem? hw)
  have hwE : aggW t.1 = w := by rw [aggW, hw]; rfl
  have ca := iha (k + 1) 0 true (l ++ (w ++ [40])) (by omega) hata (by simp only [List.length_append, List.length_cons, List.length_nil]; omega)
  have hlo : ybk 0 a = false := by simp [ybk]
  rw [hlo] at ca
  have hbl := blen hn hE ha false
  simp only [brT] at hbl ca
  have ee : l ++ (w ++ [40]) ++ ybe false names a ++ bl (ba [41]) = l ++ ybe false names (.un t a) := by
    rw [ycn]
    simp only [ybe, hwE]
    rw [if_neg (by omega), if_neg (by omega)]
    simp
  have e1 : l ++ bl (ba w ++ ba [40]) = l ++ (w ++ [40]) := by rw [bl_app, ycn, ycn]
  have er : k + 1 + a.fl.length = k + (Ex.un t a).fl.length := by simp only [Ex.fl, List.length_cons]; omega
  refine yco tok Tryd.func43 rfl rfl Tryd.ntmps43 Tryd.results43 rfl (wr_cl rfl) ?_
  show A _ _ _ _ (S _ _)
  (repeat (first | refine zI ?_ | refine zL ?_ | refine zC ?_ | refine yaf ?_ | refine yae ?_ | refine zR ?_ | refine zD ?_ | refine zK ?_ | refine zB ?_ | refine zA ?_ | refine zS ?_ | refine zU ?_ | refine zV ?_ | refine zF ?_ | with_reducible refine yab ?_ | with_reducible refine yad ?_ | refine yaa ?_ | refine yac ?_ | refine yaj ?_ | refine zT ?_ | refine zE ?_ | refine zX ?_ | refine yak rfl rfl rfl rfl ?_ | refine zA (h2 := fresh_wr rfl) ?_ | refine ycg tok rfl rfl rfl (by omega) (yey hk) rfl rfl ?_ | refine yap rfl rfl (xagg_con t.1) rfl rfl ?_))
  rw [hagg]
  (repeat (first | refine zI ?_ | refine zL ?_ | refine zC ?_ | refine zK ?_ | refine zB ?_ | refine zA ?_ | refine zS ?_ | refine zU ?_ | refine zV ?_ | refine zF ?_ | refine zX ?_ | refine yaf ?_))
  (repeat (first | with_reducible refine yad ?_ | with_reducible refine yab ?_ | refine yac ?_ | refine yae ?_ | refine yaa ?_))
  refine zT ?_
  (repeat (first | with_reducible refine yad ?_ | with_reducible refine yab ?_ | refine yac ?_ | refine yae ?_ | refine yaa ?_))
  refine ybr (lf := lfB) mixed (by kernel_rfl) rfl ?_
  (repeat (first | refine zI ?_ | refine zL ?_ | refine zC ?_ | refine zK ?_ | refine zB ?_ | refine zA ?_ | refine zS ?_ | refine zU ?_ | refine zV ?_ | refine zF ?_ | refine zX ?_ | refine yaf ?_ | refine yak rfl rfl rfl rfl ?_ | refine yap rfl rfl (aggregateWords_con) rfl rfl ?_ | refine ycg tok rfl rfl rfl (by omega) (yfa hw) rfl rfl ?_))
  refine ydj (a := ba w) (b := ba [40]) rfl rfl (by rw [yau, yau]; simp; omega) rfl rfl ?_
  refine L_wr (yao u es names l (ba w ++ ba [40]) (by rw [ByteArray.size_append, yau, yau]; simp; omega)) rfl rfl rfl rfl (ybl rfl rfl) rfl rfl rfl rfl rfl ?_
  rw [e1]
  (repeat (first | refine zI ?_ | refine zL ?_ | refine zC ?_ | refine yaf ?_ | refine yae ?_ | refine zR ?_ | refine zD ?_ | refine zK ?_ | refine zB ?_ | refine zA ?_ | refine zS ?_ | refine zU ?_ | refine zV ?_ | refine zF ?_ | with_reducible refine yab ?_ | with_reducible refine yad ?_ | refine yaa ?_ | refine yac ?_ | refine yaj ?_ | refine zT ?_ | refine zE ?_ | refine zX ?_ | refine yak rfl rfl rfl rfl ?_ | refine L_wr (ca) rfl rfl rfl rfl (ybl rfl rfl) rfl rfl rfl rfl rfl ?_ | refine L_wr (yao true es names (l ++ (w ++ [40]) ++ ybe false names a) (ba [41]) (by rw [yau]; simp only [List.length_append, List.length_cons, List.length_nil]; omega)) rfl rfl rfl rfl (ybl rfl rfl) rfl rfl rfl rfl rfl ?_))
  rw [ee, er]
  refine ybc ?_
  exact ⟨_, rfl, ybi _, yax (ybl rfl rfl)⟩
theorem write_lf {t : Tm} (hes : es.length ≤ 1000) (hn : ∀ w ∈ names, w.length ≤ 24) (hE : ar t.1 = 0) (ha : argB names.length t = true) : Writes es names (.lf t) := by
  intro k level u l hlev hat hl
  have hk := hat.head rfl
  have hlt : k < es.length := (List.getElem?_eq_some_iff.1 hk).1
  have h7 : yej t.1 = 7 := levO_7 (by unfold ar at hE; (repeat' split at hE) <;> omega)
  have hlo : ybk level (.lf t) = false := by simp [ybk, Ex.op, h7]; omega
  rw [hlo]
  have cp := primary_lf (u := u) (l := l) hk hes hE ha hn (by omega)
  refine yco tok Tryd.func19 rfl rfl Tryd.ntmps19 Tryd.results19 rfl (wr_cl rfl) ?_
  show A _ _ _ _ (S _ _)
  (repeat (first | refine zI ?_ | refine zL ?_ | refine zC ?_ | refine yaf ?_ | refine yae ?_ | refine zR ?_ | refine zD ?_ | refine zK ?_ | refine zB ?_ | refine zA ?_ | refine zS ?_ | refine zU ?_ | refine zV ?_ | refine zF ?_ | with_reducible refine yab ?_ | with_reducible refine yad ?_ | refine yaa ?_ | refine yac ?_ | refine yaj ?_ | refine zT ?_ | refine zE ?_ | refine zX ?_ | refine yak rfl rfl rfl rfl ?_ | refine ycg tok rfl rfl rfl (by omega) (yey hk) rfl rfl ?_ | refine yap rfl rfl (ycl t.1) rfl rfl ?_))
  rw [h7]
  (repeat (first | refine zI ?_ | refine zL ?_ | refine zC ?_ | refine yaf ?_ | refine yae ?_ | refine zR ?_ | refine zD ?_ | refine zK ?_ | refine zB ?_ | refine zA ?_ | refine zS ?_ | refine zU ?_ | refine zV ?_ | refine zF ?_ | with_reducible refine yab ?_ | with_reducible refine yad ?_ | refine yaa ?_ | refine yac ?_ | refine yaj ?_ | refine zT ?_ | refine zE ?_ | refine zX ?_))
  refine yas rfl (fun h9 => absurd h9 (by simp; omega)) (fun _ => ?_)
  (repeat (first | refine zI ?_ | refine zL ?_ | refine zC ?_ | refine yaf ?_ | refine yae ?_ | refine zR ?_ | refine zD ?_ | refine zK ?_ | refine zB ?_ | refine zA ?_ | refine zS ?_ | refine zU ?_ | refine zV ?_ | refine zF ?_ | with_reducible refine yab ?_ | with_reducible refine yad ?_ | refine yaa ?_ | refine yac ?_ | refine yaj ?_ | refine zT ?_ | refine zE ?_ | refine zX ?_ | refine L_wr (cp) rfl rfl rfl rfl (ybl rfl rfl) rfl rfl rfl rfl rfl ?_))
  refine ybc ?_
  exact ⟨_, rfl, ybi _, yax (ybl rfl rfl)⟩
theorem write_un {t : Tm} {a : Ex} (hes : es.length ≤ 1000) (hn : ∀ w ∈ names, w.length ≤ 24) (ht : ar t.1 = 1) (hE : a.ok) (ha : ∀ x ∈ a.fl, argB names.length x = true) (iha : Writes es names a) : Writes es names (.un t a) := by
  intro k level u l hlev hat hl
  have hk := hat.head rfl
  have hbd := hat.bound
  have hlt : k < es.length := (List.getElem?_eq_some_iff.1 hk).1
  have hata : AtE es (k + 1) a := (AtE.tail (y := []) (by have h : (t :: a.fl) <+: es.drop k := hat; simpa using h)).1
  have hop := ar_un ht
  have er : k + 1 + a.fl.length = k + (Ex.un t a).fl.length := by simp only [Ex.fl, List.length_cons]; omega
  by_cases hagg : 20 ≤ t.1
  · have h7 : yej t.1 = 7 := levO_7 (.inr ⟨hagg, hop.2⟩)
    have hlo : ybk level (.un t a) = false := by simp [ybk, Ex.op, h7]; omega
    rw [hlo]
    have cp := primary_agg (u := u) (l := l) ⟨hagg, hop.2⟩ hes hn hE ha hat iha hl
    refine yco tok Tryd.func19 rfl rfl Tryd.ntmps19 Tryd.results19 rfl (wr_cl rfl) ?_
    show A _ _ _ _ (S _ _)
    (repeat (first | refine zI ?_ | refine zL ?_ | refine zC ?_ | refine yaf ?_ | refine yae ?_ | refine zR ?_ | refine zD ?_ | refine zK ?_ | refine zB ?_ | refine zA ?_ | refine zS ?_ | refine zU ?_ | refine zV ?_ | refine zF ?_ | with_reducible refine yab ?_ | with_reducible refine yad ?_ | refine yaa ?_ | refine yac ?_ | refine yaj ?_ | refine zT ?_ | refine zE ?_ | refine zX ?_ | refine yak rfl rfl rfl rfl ?_ | refine ycg tok rfl rfl rfl (by omega) (yey hk) rfl rfl ?_ | refine yap rfl rfl (ycl t.1) rfl rfl ?_))
    rw [h7]
    (repeat (first | refine zI ?_ | refine zL ?_ | refine zC ?_ | refine yaf ?_ | refine yae ?_ | refine zR ?_ | refine zD ?_ | refine zK ?_ | refine zB ?_ | refine zA ?_ | refine zS ?_ | refine zU ?_ | refine zV ?_ | refine zF ?_ | with_reducible refine yab ?_ | with_reducible refine yad ?_ | refine yaa ?_ | refine yac ?_ | refine yaj ?_ | refine zT ?_ | refine zE ?_ | refine zX ?_))
    refine yas rfl (fun h9 => absurd h9 (by simp; omega)) (fun _ => ?_)
    (repeat (first | refine zI ?_ | refine zL ?_ | refine zC ?_ | refine yaf ?_ | refine yae ?_ | refine zR ?_ | refine zD ?_ | refine zK ?_ | refine zB ?_ | refine zA ?_ | refine zS ?_ | refine zU ?_ | refine zV ?_ | refine zF ?_ | with_reducible refine yab ?_ | with_reducible refine yad ?_ | refine yaa ?_ | refine yac ?_ | refine yaj ?_ | refine zT ?_ | refine zE ?_ | refine zX ?_ | refine L_wr (cp) rfl rfl rfl rfl (ybl rfl rfl) rfl rfl rfl rfl rfl ?_))
    refine ybc ?_
    exact ⟨_, rfl, ybi _, yax (ybl rfl rfl)⟩
  simp only [Ex.fl, List.length_cons] at hl hbd
  have h6 : yej t.1 = 6 := lev_un (by omega)
  have hlo : ybk level (.un t a) = false := by simp [ybk, Ex.op, h6]; omega
  rw [hlo]
  by_cases h18 : t.1 = 18
  · have ca := iha (k + 1) 6 true (l ++ bl (ba [45])) (by omega) hata (by rw [ycn]; simp only [List.length_append, List.length_cons, List.length_nil]; omega)
    have ee : l ++ bl (ba [45]) ++ brT (ybk 6 a) (ybe false names a) = l ++ brT false (ybe false names (.un t a)) := by rw [ycn]; simp [ybe, h18, brT]
    refine yco tok Tryd.func19 rfl rfl Tryd.ntmps19 Tryd.results19 rfl (wr_cl rfl) ?_
    show A _ _ _ _ (S _ _)
    (repeat (first | refine zI ?_ | refine zL ?_ | refine zC ?_ | refine yaf ?_ | refine yae ?_ | refine zR ?_ | refine zD ?_ | refine zK ?_ | refine zB ?_ | refine zA ?_ | refine zS ?_ | refine zU ?_ | refine zV ?_ | refine zF ?_ | with_reducible refine yab ?_ | with_reducible refine yad ?_ | refine yaa ?_ | refine yac ?_ | refine yaj ?_ | refine zT ?_ | refine zE ?_ | refine zX ?_ | refine yak rfl rfl rfl rfl ?_ | refine ycg tok rfl rfl rfl (by omega) (yey hk) rfl rfl ?_ | refine yap rfl rfl (ycl t.1) rfl rfl ?_))
    rw [h6]
    (repeat (first | refine zI ?_ | refine zL ?_ | refine zC ?_ | refine yaf ?_ | refine yae ?_ | refine zR ?_ | refine zD ?_ | refine zK ?_ | refine zB ?_ | refine zA ?_ | refine zS ?_ | refine zU ?_ | refine zV ?_ | refine zF ?_ | with_reducible refine yab ?_ | with_reducible refine yad ?_ | refine yaa ?_ | refine yac ?_ | refine yaj ?_ | refine zT ?_ | refine zE ?_ | refine zX ?_))
    refine yas rfl (fun h9 => absurd h9 (by simp; omega)) (fun _ => ?_)
    (repeat (first | refine zI ?_ | refine zL ?_ | refine zC ?_ | refine yaf ?_ | refine yae ?_ | refine zR ?_ | refine zD ?_ | refine zK ?_ | refine zB ?_ | refine zA ?_ | refine zS ?_ | refine zU ?_ | refine zV ?_ | refine zF ?_ | with_reducible refine yab ?_ | with_reducible refine yad ?_ | refine yaa ?_ | refine yac ?_ | refine yaj ?_ | refine zT ?_ | refine zE ?_ | refine zX ?_))
    refine yas rfl (fun _ => ?_) (fun h9 => absurd h9 (by simp [h18]))
    (repeat (first | refine zI ?_ | refine zL ?_ | refine zC ?_ | refine yaf ?_ | refine yae ?_ | refine zR ?_ | refine zD ?_ | refine zK ?_ | refine zB ?_ | refine zA ?_ | refine zS ?_ | refine zU ?_ | refine zV ?_ | refine zF ?_ | with_reducible refine yab ?_ | with_reducible refine yad ?_ | refine yaa ?_ | refine yac ?_ | refine yaj ?_ | refine zT ?_ | refine zE ?_ | refine zX ?_ | refine yak rfl rfl rfl rfl ?_ | refine L_wr (yao u es names l (ba [45]) (by rw [yau]; simp; omega)) rfl rfl rfl rfl (ybl rfl rfl) rfl rfl rfl rfl rfl ?_ | refine L_wr (ca) rfl rfl rfl rfl (ybl rfl rfl) rfl rfl rfl rfl rfl ?_))
    rw [ee, er]
    refine ybc ?_
    exact ⟨_, rfl, ybi _, yax (ybl rfl rfl)⟩
  · have h19 : t.1 = 19 := by omega
    have ca := iha (k + 1) 6 true (l ++ bl (ba [33])) (by omega) hata (by rw [ycn]; simp only [List.length_append, List.length_cons, List.length_nil]; omega)
    have ee : l ++ bl (ba [33]) ++ brT (ybk 6 a) (ybe false names a) = l ++ brT false (ybe false names (.un t a)) := by rw [ycn]; simp [ybe, h19, brT]
    refine yco tok Tryd.func19 rfl rfl Tryd.ntmps19 Tryd.results19 rfl (wr_cl rfl) ?_
    show A _ _ _ _ (S _ _)
    (repeat (first | refine zI ?_ | refine zL ?_ | refine zC ?_ | refine yaf ?_ | refine yae ?_ | refine zR ?_ | refine zD ?_ | refine zK ?_ | refine zB ?_ | refine zA ?_ | refine zS ?_ | refine zU ?_ | refine zV ?_ | refine zF ?_ | with_reducible refine yab ?_ | with_reducible refine yad ?_ | refine yaa ?_ | refine yac ?_ | refine yaj ?_ | refine zT ?_ | refine zE ?_ | refine zX ?_ | refine yak rfl rfl rfl rfl ?_ | refine ycg tok rfl rfl rfl (by omega) (yey hk) rfl rfl ?_ | refine yap rfl rfl (ycl t.1) rfl rfl ?_))
    rw [h6]
    (repeat (first | refine zI ?_ | refine zL ?_ | refine zC ?_ | refine yaf ?_ | refine yae ?_ | refine zR ?_ | refine zD ?_ | refine zK ?_ | refine zB ?_ | refine zA ?_ | refine zS ?_ | refine zU ?_ | refine zV ?_ | refine zF ?_ | with_reducible refine yab ?_ | with_reducible refine yad ?_ | refine yaa ?_ | refine yac ?_ | refine yaj ?_ | refine zT ?_ | refine zE ?_ | refine zX ?_))
    refine yas rfl (fun h9 => absurd h9 (by simp; omega)) (fun _ => ?_)
    (repeat (first | refine zI ?_ | refine zL ?_ | refine zC ?_ | refine yaf ?_ | refine yae ?_ | refine zR ?_ | refine zD ?_ | refine zK ?_ | refine zB ?_ | refine zA ?_ | refine zS ?_ | refine zU ?_ | refine zV ?_ | refine zF ?_ | with_reducible refine yab ?_ | with_reducible refine yad ?_ | refine yaa ?_ | refine yac ?_ | refine yaj ?_ | refine zT ?_ | refine zE ?_ | refine zX ?_))
    refine yas rfl (fun h9 => absurd h9 (by simp [h19])) (fun _ => ?_)
    (repeat (first | refine zI ?_ | refine zL ?_ | refine zC ?_ | refine yaf ?_ | refine yae ?_ | refine zR ?_ | refine zD ?_ | refine zK ?_ | refine zB ?_ | refine zA ?_ | refine zS ?_ | refine zU ?_ | refine zV ?_ | refine zF ?_ | with_reducible refine yab ?_ | with_reducible refine yad ?_ | refine yaa ?_ | refine yac ?_ | refine yaj ?_ | refine zT ?_ | refine zE ?_ | refine zX ?_ | refine yak rfl rfl rfl rfl ?_ | refine L_wr (yao u es names l (ba [33]) (by rw [yau]; simp; omega)) rfl rfl rfl rfl (ybl rfl rfl) rfl rfl rfl rfl rfl ?_ | refine L_wr (ca) rfl rfl rfl rfl (ybl rfl rfl) rfl rfl rfl rfl rfl ?_))
    rw [ee, er]
    refine ybc ?_
    exact ⟨_, rfl, ybi _, yax (ybl rfl rfl)⟩
theorem low_none {t : List (Nat × AV)} {x : Nat} (h : allLt 1000000 t = true) (hx : 1000000 ≤ x) : ybb t x = none := by
  cases hq : ybb t x with
  | none => rfl
  | some y => have := allLt_spec h x y hq; omega
theorem write_bi {t : Tm} {a b : Ex} (hes : es.length ≤ 1000) (hn : ∀ w ∈ names, w.length ≤ 24) (ht : ar t.1 = 2) (hEa : a.ok) (hEb : b.ok) (hab0 : ∀ x ∈ (Ex.bi t a b).fl, argB names.length x = true) (iha : Writes es names a) (ihb : Writes es names b) : Writes es names (.bi t a b) := by
  intro k level u l hlev hat hl
  have haa : ∀ x ∈ a.fl, argB names.length x = true := fun x hx => hab0 x (by simp [Ex.fl, hx])
  have hab : ∀ x ∈ b.fl, argB names.length x = true := fun x hx => hab0 x (by simp [Ex.fl, hx])
  have hk := hat.head rfl
  have hbd := hat.bound
  have hlt : k < es.length := (List.getElem?_eq_some_iff.1 hk).1
  obtain ⟨hata, hatb⟩ := AtE.tail (show (t :: (a.fl ++ b.fl)) <+: es.drop k from hat)
  have hop := ar_bi ht
  have hv := lev_bi hop
  have er : k + 1 + a.fl.length + b.fl.length = k + (Ex.bi t a b).fl.length := by simp only [Ex.fl, List.length_cons, List.length_append]; omega
  have hll : l.length + 40 * (Ex.bi t a b).fl.length ≤ 900000 := hl
  simp only [Ex.fl, List.length_cons, List.length_append] at hl hbd hll
  obtain ⟨w, hw⟩ := getN' (l := binL) (k := (t.1 - 30).toNat) (by show _ < 13; omega)
  have hwl := bin_len w (List.mem_of_getElem? hw)
  have hwE : binW t.1 = w := by rw [binW, hw]; rfl
  have hbla : ∀ c, (brT c (ybe false names a)).length ≤ 34 * a.fl.length := blen hn hEa haa
  by_cases hlo : yej t.1 < level
  · have hlo2 : ybk level (.bi t a b) = true := decide_eq_true hlo
    rw [hlo2]
    by_cases h3 : yej t.1 = 3
    · have ca := iha (k + 1) 4 true (l ++ bl (ba [40])) (by omega) hata (by rw [ycn]; simp only [List.length_append, List.length_cons, List.length_nil]; omega)
      have cb := ihb (k + 1 + a.fl.length) (3 + 1) true ((l ++ bl (ba [40])) ++ brT (ybk 4 a) (ybe false names a) ++ bl (ba [32] ++ ba w ++ ba [32])) (by omega) hatb (by simp only [bl_app, ycn]; have := hbla (ybk 4 a); simp only [List.length_append, List.length_cons, List.length_nil]; omega)
      have ee : (l ++ bl (ba [40])) ++ brT (ybk 4 a) (ybe false names a) ++ bl (ba [32] ++ ba w ++ ba [32]) ++ brT (ybk (3 + 1) b) (ybe false names b) = (l ++ bl (ba [40])) ++ ybe false names (.bi t a b) := by
        simp only [bl_app, ycn]
        simp only [ybe, Bool.false_or, leftL, h3, if_true, hwE]
        simp
      have hblb := blen hn hEb hab false
      have hbl2 := ydm hn false (.bi t a b) ⟨ht, hEa, hEb⟩ hab0
      refine conM_ofD tok Tryd.func19 rfl rfl Tryd.ntmps19 Tryd.results19 rfl (wr_cl rfl) ?_
      show AF _ _ _ _ (S _ _)
      refine yea (ydu ?_)
      refine yag (lf := lfT) rfl ?_
      (repeat (first | refine zI ?_ | refine zL ?_ | refine zC ?_ | refine zK ?_ | refine zB ?_ | refine zA ?_ | refine zS ?_ | refine zU ?_ | refine zV ?_ | refine zF ?_ | refine zX ?_ | refine yaf ?_))
      show AF _ _ _ _ (S _ _)
      refine yea (ydu ?_)
      refine yag (lf := lfT) rfl ?_
      (repeat (first | refine zI ?_ | refine zL ?_ | refine zC ?_ | refine zK ?_ | refine zB ?_ | refine zA ?_ | refine zS ?_ | refine zU ?_ | refine zV ?_ | refine zF ?_ | refine zX ?_ | refine yaf ?_ | refine yak rfl rfl rfl rfl ?_ | refine ycg tok rfl rfl rfl (by omega) (yey hk) rfl rfl ?_))
      show AF _ _ _ _ (S _ _)
      refine yea (ydu ?_)
      refine yag (lf := lfT) rfl ?_
      (repeat (first | refine zI ?_ | refine zL ?_ | refine zC ?_ | refine zK ?_ | refine zB ?_ | refine zA ?_ | refine zS ?_ | refine zU ?_ | refine zV ?_ | refine zF ?_ | refine zX ?_ | refine yaf ?_ | refine yap rfl rfl (ycl t.1) rfl rfl ?_))
      rw [h3]
      show AF _ _ _ _ (S _ _)
      refine yea ?_
      refine yea (ydu ?_)
      refine yag (lf := lfT) rfl ?_
      (repeat (first | refine zI ?_ | refine zL ?_ | refine zC ?_ | refine zK ?_ | refine zB ?_ | refine zA ?_ | refine zS ?_ | refine zU ?_ | refine zV ?_ | refine zF ?_ | refine zX ?_ | refine yaf ?_))
      show AF _ _ _ _ (S _ _)
      refine AF_cond rfl (fun _ => ?_) (fun h9 => absurd h9 (by simp; omega))
      refine yea (ydu ?_)
      refine yag (lf := lfT) rfl ?_
      (repeat (first | refine zI ?_ | refine zL ?_ | refine zC ?_ | refine zK ?_ | refine zB ?_ | refine zA ?_ | refine zS ?_ | refine zU ?_ | refine zV ?_ | refine zF ?_ | refine zX ?_ | refine yaf ?_ | refine yak rfl rfl rfl rfl ?_ | refine L_wr (yao u es names l (ba [40]) (by rw [yau]; simp; omega)) rfl rfl rfl rfl (ybl rfl rfl) rfl rfl rfl rfl rfl ?_))
      show AF _ _ _ _ (S _ _)
      refine AF_region_defer (lf := lfT) 3 rfl rfl rfl rfl rfl rfl (fun d h => by cases h) ?_
      (repeat (first | refine zI ?_ | refine zL ?_ | refine zC ?_ | refine zK ?_ | refine zB ?_ | refine zA ?_ | refine zS ?_ | refine zU ?_ | refine zV ?_ | refine zF ?_ | refine zX ?_ | refine yaf ?_ | refine yak rfl rfl rfl rfl ?_))
      refine ⟨rfl, _, _, _, ⟨_, Tryd.func42, rfl, rfl⟩, rfl, rfl, fun x hx => low_none rfl hx, ?_⟩
      show Lex _ _ _ _ _ [] _
      refine .nil ?_
      show A _ _ _ _ _
      refine A_weak (s' := S [(0, .lp 1001 0), (1, i64 k), (7, i64 t.1), (8, i64 (3 : Nat)), (1000000, .lp 1001 0), (1000001, strA (ba [41]))] (wrH true es names (l ++ bl (ba [40])))) ?_ ⟨subF_look ⟨rfl, rfl, rfl, rfl, rfl, rfl, trivial⟩, fun id x h => h⟩
      (repeat (first | refine zI ?_ | refine zL ?_ | refine zC ?_ | refine yaf ?_ | refine yae ?_ | refine zR ?_ | refine zD ?_ | refine zK ?_ | refine zB ?_ | refine zA ?_ | refine zS ?_ | refine zU ?_ | refine zV ?_ | refine zF ?_ | with_reducible refine yab ?_ | with_reducible refine yad ?_ | refine yaa ?_ | refine yac ?_ | refine yaj ?_ | refine zT ?_ | refine zE ?_ | refine zX ?_))
      (repeat (first | refine zI ?_ | refine zL ?_ | refine zC ?_ | refine yaf ?_ | refine yae ?_ | refine zR ?_ | refine zK ?_ | refine zB ?_ | refine zA ?_ | refine zS ?_ | refine zU ?_ | refine zV ?_ | refine zF ?_ | with_reducible refine yab ?_ | with_reducible refine yad ?_ | refine yaa ?_ | refine yac ?_ | refine yaj ?_ | refine zT ?_ | refine zE ?_ | refine zX ?_ | refine yak rfl rfl rfl rfl ?_ | refine L_wr (ca) rfl rfl rfl rfl (ybl rfl rfl) rfl rfl rfl rfl rfl ?_))
      (repeat (first | with_reducible refine yad ?_ | with_reducible refine yab ?_ | refine yac ?_ | refine yae ?_ | refine yaa ?_))
      refine ybr (lf := lfB) mixed (by kernel_rfl) rfl ?_
      (repeat (first | refine zI ?_ | refine zL ?_ | refine zC ?_ | refine zK ?_ | refine zB ?_ | refine zA ?_ | refine zS ?_ | refine zU ?_ | refine zV ?_ | refine zF ?_ | refine zX ?_ | refine yaf ?_ | refine yak rfl rfl rfl rfl ?_ | refine yap rfl rfl (binarySigns_con) rfl rfl ?_ | refine ycg tok rfl rfl rfl (by omega) (yfa hw) rfl rfl ?_))
      refine ydj (a := ba [32]) (b := ba w) rfl rfl (by rw [yau, yau]; simp; omega) rfl rfl ?_
      refine ydj (a := ba [32] ++ ba w) (b := ba [32]) rfl rfl (by rw [ByteArray.size_append, yau, yau]; simp; omega) rfl rfl ?_
      refine L_wr (yao true es names _ (ba [32] ++ ba w ++ ba [32]) (by rw [ByteArray.size_append, ByteArray.size_append, yau, yau]; have := hbla (ybk 4 a); rw [ycn]; simp only [List.length_append, List.length_cons, List.length_nil]; omega)) rfl rfl rfl rfl (ybl rfl rfl) rfl rfl rfl rfl rfl ?_
      (repeat (first | refine zI ?_ | refine zL ?_ | refine zC ?_ | refine yaf ?_ | refine yae ?_ | refine zR ?_ | refine zD ?_ | refine zK ?_ | refine zB ?_ | refine zA ?_ | refine zS ?_ | refine zU ?_ | refine zV ?_ | refine zF ?_ | with_reducible refine yab ?_ | with_reducible refine yad ?_ | refine yaa ?_ | refine yac ?_ | refine yaj ?_ | refine zT ?_ | refine zE ?_ | refine zX ?_ | refine yak rfl rfl rfl rfl ?_ | refine L_wr (cb) rfl rfl rfl rfl (ybl rfl rfl) rfl rfl rfl rfl rfl ?_))
      rw [ee, er]
      refine ybc ?_
      refine ends_defer (h' := []) (args0 := [.lp 1001 0, strA (ba [41])]) (hm := wrH true es names (l ++ bl (ba [40]) ++ ybe false names (Ex.bi t a b))) (hm' := wrH true es names (l ++ bl (ba [40]) ++ ybe false names (Ex.bi t a b) ++ bl (ba [41]))) [(1001, 1001), (1003, 1003)] rfl rfl rfl ⟨rfl, rfl, trivial⟩ (w_writeString_K true es names _ (ba [41]) (by rw [yau, ycn]; simp only [List.length_append, List.length_cons, List.length_nil]; omega)) rfl rfl rfl rfl (by rw [renO_wr]; exact ybl rfl rfl) rfl (fun j ob hj hob => by cases hob) rfl (ybi _) (fun id o ho => ?_)
      rw [show l ++ brT true (ybe false names (Ex.bi t a b)) = l ++ bl (ba [40]) ++ ybe false names (Ex.bi t a b) ++ bl (ba [41]) by rw [ycn, ycn]; simp [brT]] at ho
      exact ho
    · have ca := iha (k + 1) (yej t.1) true (l ++ bl (ba [40])) (by omega) hata (by rw [ycn]; simp only [List.length_append, List.length_cons, List.length_nil]; omega)
      have cb := ihb (k + 1 + a.fl.length) ((yej t.1) + 1) true ((l ++ bl (ba [40])) ++ brT (ybk (yej t.1) a) (ybe false names a) ++ bl (ba [32] ++ ba w ++ ba [32])) (by omega) hatb (by simp only [bl_app, ycn]; have := hbla (ybk (yej t.1) a); simp only [List.length_append, List.length_cons, List.length_nil]; omega)
      have ee : (l ++ bl (ba [40])) ++ brT (ybk (yej t.1) a) (ybe false names a) ++ bl (ba [32] ++ ba w ++ ba [32]) ++ brT (ybk ((yej t.1) + 1) b) (ybe false names b) = (l ++ bl (ba [40])) ++ ybe false names (.bi t a b) := by
        simp only [bl_app, ycn]
        simp only [ybe, Bool.false_or, leftL, h3, if_false, hwE]
        simp
      have hblb := blen hn hEb hab false
      have hbl2 := ydm hn false (.bi t a b) ⟨ht, hEa, hEb⟩ hab0
      refine conM_ofD tok Tryd.func19 rfl rfl Tryd.ntmps19 Tryd.results19 rfl (wr_cl rfl) ?_
      show AF _ _ _ _ (S _ _)
      refine yea (ydu ?_)
      refine yag (lf := lfT) rfl ?_
      (repeat (first | refine zI ?_ | refine zL ?_ | refine zC ?_ | refine zK ?_ | refine zB ?_ | refine zA ?_ | refine zS ?_ | refine zU ?_ | refine zV ?_ | refine zF ?_ | refine zX ?_ | refine yaf ?_))
      show AF _ _ _ _ (S _ _)
      refine yea (ydu ?_)
      refine yag (lf := lfT) rfl ?_
      (repeat (first | refine zI ?_ | refine zL ?_ | refine zC ?_ | refine zK ?_ | refine zB ?_ | refine zA ?_ | refine zS ?_ | refine zU ?_ | refine zV ?_ | refine zF ?_ | refine zX ?_ | refine yaf ?_ | refine yak rfl rfl rfl rfl ?_ | refine ycg tok rfl rfl rfl (by omega) (yey hk) rfl rfl ?_))
      show AF _ _ _ _ (S _ _)
      refine yea (ydu ?_)
      refine yag (lf := lfT) rfl ?_
      (repeat (first | refine zI ?_ | refine zL ?_ | refine zC ?_ | refine zK ?_ | refine zB ?_ | refine zA ?_ | refine zS ?_ | refine zU ?_ | refine zV ?_ | refine zF ?_ | refine zX ?_ | refine yaf ?_ | refine yap rfl rfl (ycl t.1) rfl rfl ?_))
      skip
      show AF _ _ _ _ (S _ _)
      refine yea ?_
      refine yea (ydu ?_)
      refine yag (lf := lfT) rfl ?_
      (repeat (first | refine zI ?_ | refine zL ?_ | refine zC ?_ | refine zK ?_ | refine zB ?_ | refine zA ?_ | refine zS ?_ | refine zU ?_ | refine zV ?_ | refine zF ?_ | refine zX ?_ | refine yaf ?_))
      show AF _ _ _ _ (S _ _)
      refine AF_cond rfl (fun _ => ?_) (fun h9 => absurd h9 (by simp; omega))
      refine yea (ydu ?_)
      refine yag (lf := lfT) rfl ?_
      (repeat (first | refine zI ?_ | refine zL ?_ | refine zC ?_ | refine zK ?_ | refine zB ?_ | refine zA ?_ | refine zS ?_ | refine zU ?_ | refine zV ?_ | refine zF ?_ | refine zX ?_ | refine yaf ?_ | refine yak rfl rfl rfl rfl ?_ | refine L_wr (yao u es names l (ba [40]) (by rw [yau]; simp; omega)) rfl rfl rfl rfl (ybl rfl rfl) rfl rfl rfl rfl rfl ?_))
      show AF _ _ _ _ (S _ _)
      refine AF_region_defer (lf := lfT) 3 rfl rfl rfl rfl rfl rfl (fun d h => by cases h) ?_
      (repeat (first | refine zI ?_ | refine zL ?_ | refine zC ?_ | refine zK ?_ | refine zB ?_ | refine zA ?_ | refine zS ?_ | refine zU ?_ | refine zV ?_ | refine zF ?_ | refine zX ?_ | refine yaf ?_ | refine yak rfl rfl rfl rfl ?_))
      refine ⟨rfl, _, _, _, ⟨_, Tryd.func42, rfl, rfl⟩, rfl, rfl, fun x hx => low_none rfl hx, ?_⟩
      show Lex _ _ _ _ _ [] _
      refine .nil ?_
      show A _ _ _ _ _
      refine A_weak (s' := S [(0, .lp 1001 0), (1, i64 k), (7, i64 t.1), (8, i64 (yej t.1 : Nat)), (1000000, .lp 1001 0), (1000001, strA (ba [41]))] (wrH true es names (l ++ bl (ba [40])))) ?_ ⟨subF_look ⟨rfl, rfl, rfl, rfl, rfl, rfl, trivial⟩, fun id x h => h⟩
      (repeat (first | refine zI ?_ | refine zL ?_ | refine zC ?_ | refine yaf ?_ | refine yae ?_ | refine zR ?_ | refine zD ?_ | refine zK ?_ | refine zB ?_ | refine zA ?_ | refine zS ?_ | refine zU ?_ | refine zV ?_ | refine zF ?_ | with_reducible refine yab ?_ | with_reducible refine yad ?_ | refine yaa ?_ | refine yac ?_ | refine yaj ?_ | refine zT ?_ | refine zE ?_ | refine zX ?_))
      refine yas rfl (fun h9 => absurd h9 (by simp; omega)) (fun _ => ?_)
      (repeat (first | refine zI ?_ | refine zL ?_ | refine zC ?_ | refine yaf ?_ | refine yae ?_ | refine zR ?_ | refine zD ?_ | refine zK ?_ | refine zB ?_ | refine zA ?_ | refine zS ?_ | refine zU ?_ | refine zV ?_ | refine zF ?_ | with_reducible refine yab ?_ | with_reducible refine yad ?_ | refine yaa ?_ | refine yac ?_ | refine yaj ?_ | refine zT ?_ | refine zE ?_ | refine zX ?_))
      refine yas rfl (fun h9 => absurd h9 (by simp; omega)) (fun _ => ?_)
      (repeat (first | refine zI ?_ | refine zL ?_ | refine zC ?_ | refine yaf ?_ | refine yae ?_ | refine zR ?_ | refine zD ?_ | refine zK ?_ | refine zB ?_ | refine zA ?_ | refine zS ?_ | refine zU ?_ | refine zV ?_ | refine zF ?_ | with_reducible refine yab ?_ | with_reducible refine yad ?_ | refine yaa ?_ | refine yac ?_ | refine yaj ?_ | refine zT ?_ | refine zE ?_ | refine zX ?_))
      refine yas rfl (fun h9 => absurd h9 (by simp; omega)) (fun _ => ?_)
      (repeat (first | refine zI ?_ | refine zL ?_ | refine zC ?_ | refine yaf ?_ | refine yae ?_ | refine zR ?_ | refine zD ?_ | refine zK ?_ | refine zB ?_ | refine zA ?_ | refine zS ?_ | refine zU ?_ | refine zV ?_ | refine zF ?_ | with_reducible refine yab ?_ | with_reducible refine yad ?_ | refine yaa ?_ | refine yac ?_ | refine yaj ?_ | refine zT ?_ | refine zE ?_ | refine zX ?_))
      refine yas rfl (fun h9 => absurd h9 (by simp; omega)) (fun _ => ?_)
      (repeat (first | refine zI ?_ | refine zL ?_ | refine zC ?_ | refine yaf ?_ | refine yae ?_ | refine zR ?_ | refine zK ?_ | refine zB ?_ | refine zA ?_ | refine zS ?_ | refine zU ?_ | refine zV ?_ | refine zF ?_ | with_reducible refine yab ?_ | with_reducible refine yad ?_ | refine yaa ?_ | refine yac ?_ | refine yaj ?_ | refine zT ?_ | refine zE ?_ | refine zX ?_ | refine yak rfl rfl rfl rfl ?_ | refine L_wr (ca) rfl rfl rfl rfl (ybl rfl rfl) rfl rfl rfl rfl rfl ?_))
      (repeat (first | with_reducible refine yad ?_ | with_reducible refine yab ?_ | refine yac ?_ | refine yae ?_ | refine yaa ?_))
      refine ybr (lf := lfB) mixed (by kernel_rfl) rfl ?_
      (repeat (first | refine zI ?_ | refine zL ?_ | refine zC ?_ | refine zK ?_ | refine zB ?_ | refine zA ?_ | refine zS ?_ | refine zU ?_ | refine zV ?_ | refine zF ?_ | refine zX ?_ | refine yaf ?_ | refine yak rfl rfl rfl rfl ?_ | refine yap rfl rfl (binarySigns_con) rfl rfl ?_ | refine ycg tok rfl rfl rfl (by omega) (yfa hw) rfl rfl ?_))
      refine ydj (a := ba [32]) (b := ba w) rfl rfl (by rw [yau, yau]; simp; omega) rfl rfl ?_
      refine ydj (a := ba [32] ++ ba w) (b := ba [32]) rfl rfl (by rw [ByteArray.size_append, yau, yau]; simp; omega) rfl rfl ?_
      refine L_wr (yao true es names _ (ba [32] ++ ba w ++ ba [32]) (by rw [ByteArray.size_append, ByteArray.size_append, yau, yau]; have := hbla (ybk (yej t.1) a); rw [ycn]; simp only [List.length_append, List.length_cons, List.length_nil]; omega)) rfl rfl rfl rfl (ybl rfl rfl) rfl rfl rfl rfl rfl ?_
      (repeat (first | refine zI ?_ | refine zL ?_ | refine zC ?_ | refine yaf ?_ | refine yae ?_ | refine zR ?_ | refine zD ?_ | refine zK ?_ | refine zB ?_ | refine zA ?_ | refine zS ?_ | refine zU ?_ | refine zV ?_ | refine zF ?_ | with_reducible refine yab ?_ | with_reducible refine yad ?_ | refine yaa ?_ | refine yac ?_ | refine yaj ?_ | refine zT ?_ | refine zE ?_ | refine zX ?_ | refine yak rfl rfl rfl rfl ?_ | refine L_wr (cb) rfl rfl rfl rfl (ybl rfl rfl) rfl rfl rfl rfl rfl ?_))
      rw [ee, er]
      refine ybc ?_
      refine ends_defer (h' := []) (args0 := [.lp 1001 0, strA (ba [41])]) (hm := wrH true es names (l ++ bl (ba [40]) ++ ybe false names (Ex.bi t a b))) (hm' := wrH true es names (l ++ bl (ba [40]) ++ ybe false names (Ex.bi t a b) ++ bl (ba [41]))) [(1001, 1001), (1003, 1003)] rfl rfl rfl ⟨rfl, rfl, trivial⟩ (w_writeString_K true es names _ (ba [41]) (by rw [yau, ycn]; simp only [List.length_append, List.length_cons, List.length_nil]; omega)) rfl rfl rfl rfl (by rw [renO_wr]; exact ybl rfl rfl) rfl (fun j ob hj hob => by cases hob) rfl (ybi _) (fun id o ho => ?_)
      rw [show l ++ brT true (ybe false names (Ex.bi t a b)) = l ++ bl (ba [40]) ++ ybe false names (Ex.bi t a b) ++ bl (ba [41]) by rw [ycn, ycn]; simp [brT]] at ho
      exact ho
  · have hlo2 : ybk level (.bi t a b) = false := decide_eq_false hlo
    rw [hlo2]
    by_cases h3 : yej t.1 = 3
    · have ca := iha (k + 1) 4 u l (by omega) hata (by omega)
      have cb := ihb (k + 1 + a.fl.length) (3 + 1) true (l ++ brT (ybk 4 a) (ybe false names a) ++ bl (ba [32] ++ ba w ++ ba [32])) (by omega) hatb (by simp only [bl_app, ycn]; have := hbla (ybk 4 a); simp only [List.length_append, List.length_cons, List.length_nil]; omega)
      have ee : l ++ brT (ybk 4 a) (ybe false names a) ++ bl (ba [32] ++ ba w ++ ba [32]) ++ brT (ybk (3 + 1) b) (ybe false names b) = l ++ ybe false names (.bi t a b) := by
        simp only [bl_app, ycn]
        simp only [ybe, Bool.false_or, leftL, h3, if_true, hwE]
        simp
      have hblb := blen hn hEb hab false
      have hbl2 := ydm hn false (.bi t a b) ⟨ht, hEa, hEb⟩ hab0
      refine yco tok Tryd.func19 rfl rfl Tryd.ntmps19 Tryd.results19 rfl (wr_cl rfl) ?_
      show A _ _ _ _ (S _ _)
      (repeat (first | refine zI ?_ | refine zL ?_ | refine zC ?_ | refine yaf ?_ | refine yae ?_ | refine zR ?_ | refine zD ?_ | refine zK ?_ | refine zB ?_ | refine zA ?_ | refine zS ?_ | refine zU ?_ | refine zV ?_ | refine zF ?_ | with_reducible refine yab ?_ | with_reducible refine yad ?_ | refine yaa ?_ | refine yac ?_ | refine yaj ?_ | refine zT ?_ | refine zE ?_ | refine zX ?_ | refine yak rfl rfl rfl rfl ?_ | refine ycg tok rfl rfl rfl (by omega) (yey hk) rfl rfl ?_ | refine yap rfl rfl (ycl t.1) rfl rfl ?_))
      rw [h3]
      (repeat (first | refine zI ?_ | refine zL ?_ | refine zC ?_ | refine yaf ?_ | refine yae ?_ | refine zR ?_ | refine zD ?_ | refine zK ?_ | refine zB ?_ | refine zA ?_ | refine zS ?_ | refine zU ?_ | refine zV ?_ | refine zF ?_ | with_reducible refine yab ?_ | with_reducible refine yad ?_ | refine yaa ?_ | refine yac ?_ | refine yaj ?_ | refine zT ?_ | refine zE ?_ | refine zX ?_))
      refine yas rfl (fun h9 => absurd h9 (by simp; omega)) (fun _ => ?_)
      (repeat (first | refine zI ?_ | refine zL ?_ | refine zC ?_ | refine yaf ?_ | refine yae ?_ | refine zR ?_ | refine zD ?_ | refine zK ?_ | refine zB ?_ | refine zA ?_ | refine zS ?_ | refine zU ?_ | refine zV ?_ | refine zF ?_ | with_reducible refine yab ?_ | with_reducible refine yad ?_ | refine yaa ?_ | refine yac ?_ | refine yaj ?_ | refine zT ?_ | refine zE ?_ | refine zX ?_))
      (repeat (first | refine zI ?_ | refine zL ?_ | refine zC ?_ | refine yaf ?_ | refine yae ?_ | refine zR ?_ | refine zK ?_ | refine zB ?_ | refine zA ?_ | refine zS ?_ | refine zU ?_ | refine zV ?_ | refine zF ?_ | with_reducible refine yab ?_ | with_reducible refine yad ?_ | refine yaa ?_ | refine yac ?_ | refine yaj ?_ | refine zT ?_ | refine zE ?_ | refine zX ?_ | refine yak rfl rfl rfl rfl ?_ | refine L_wr (ca) rfl rfl rfl rfl (ybl rfl rfl) rfl rfl rfl rfl rfl ?_))
      (repeat (first | with_reducible refine yad ?_ | with_reducible refine yab ?_ | refine yac ?_ | refine yae ?_ | refine yaa ?_))
      refine ybr (lf := lfB) mixed (by kernel_rfl) rfl ?_
      (repeat (first | refine zI ?_ | refine zL ?_ | refine zC ?_ | refine zK ?_ | refine zB ?_ | refine zA ?_ | refine zS ?_ | refine zU ?_ | refine zV ?_ | refine zF ?_ | refine zX ?_ | refine yaf ?_ | refine yak rfl rfl rfl rfl ?_ | refine yap rfl rfl (binarySigns_con) rfl rfl ?_ | refine ycg tok rfl rfl rfl (by omega) (yfa hw) rfl rfl ?_))
      refine ydj (a := ba [32]) (b := ba w) rfl rfl (by rw [yau, yau]; simp; omega) rfl rfl ?_
      refine ydj (a := ba [32] ++ ba w) (b := ba [32]) rfl rfl (by rw [ByteArray.size_append, yau, yau]; simp; omega) rfl rfl ?_
      refine L_wr (yao true es names _ (ba [32] ++ ba w ++ ba [32]) (by rw [ByteArray.size_append, ByteArray.size_append, yau, yau]; have := hbla (ybk 4 a); simp only [List.length_append, List.length_cons, List.length_nil]; omega)) rfl rfl rfl rfl (ybl rfl rfl) rfl rfl rfl rfl rfl ?_
      (repeat (first | refine zI ?_ | refine zL ?_ | refine zC ?_ | refine yaf ?_ | refine yae ?_ | refine zR ?_ | refine zD ?_ | refine zK ?_ | refine zB ?_ | refine zA ?_ | refine zS ?_ | refine zU ?_ | refine zV ?_ | refine zF ?_ | with_reducible refine yab ?_ | with_reducible refine yad ?_ | refine yaa ?_ | refine yac ?_ | refine yaj ?_ | refine zT ?_ | refine zE ?_ | refine zX ?_ | refine yak rfl rfl rfl rfl ?_ | refine L_wr (cb) rfl rfl rfl rfl (ybl rfl rfl) rfl rfl rfl rfl rfl ?_))
      rw [ee, er]
      refine ybc ?_
      exact ⟨_, rfl, ybi _, yax (ybl rfl rfl)⟩
    · have ca := iha (k + 1) (yej t.1) u l (by omega) hata (by omega)
      have cb := ihb (k + 1 + a.fl.length) ((yej t.1) + 1) true (l ++ brT (ybk (yej t.1) a) (ybe false names a) ++ bl (ba [32] ++ ba w ++ ba [32])) (by omega) hatb (by simp only [bl_app, ycn]; have := hbla (ybk (yej t.1) a); simp only [List.length_append, List.length_cons, List.length_nil]; omega)
      have ee : l ++ brT (ybk (yej t.1) a) (ybe false names a) ++ bl (ba [32] ++ ba w ++ ba [32]) ++ brT (ybk ((yej t.1) + 1) b) (ybe false names b) = l ++ ybe false names (.bi t a b) := by
        simp only [bl_app, ycn]
        simp only [ybe, Bool.false_or, leftL, h3, if_false, hwE]
        simp
      have hblb := blen hn hEb hab false
      have hbl2 := ydm hn false (.bi t a b) ⟨ht, hEa, hEb⟩ hab0
      refine yco tok Tryd.func19 rfl rfl Tryd.ntmps19 Tryd.results19 rfl (wr_cl rfl) ?_
      show A _ _ _ _ (S _ _)
      (repeat (first | refine zI ?_ | refine zL ?_ | refine zC ?_ | refine yaf ?_ | refine yae ?_ | refine zR ?_ | refine zD ?_ | refine zK ?_ | refine zB ?_ | refine zA ?_ | refine zS ?_ | refine zU ?_ | refine zV ?_ | refine zF ?_ | with_reducible refine yab ?_ | with_reducible refine yad ?_ | refine yaa ?_ | refine yac ?_ | refine yaj ?_ | refine zT ?_ | refine zE ?_ | refine zX ?_ | refine yak rfl rfl rfl rfl ?_ | refine ycg tok rfl rfl rfl (by omega) (yey hk) rfl rfl ?_ | refine yap rfl rfl (ycl t.1) rfl rfl ?_))
      skip
      (repeat (first | refine zI ?_ | refine zL ?_ | refine zC ?_ | refine yaf ?_ | refine yae ?_ | refine zR ?_ | refine zD ?_ | refine zK ?_ | refine zB ?_ | refine zA ?_ | refine zS ?_ | refine zU ?_ | refine zV ?_ | refine zF ?_ | with_reducible refine yab ?_ | with_reducible refine yad ?_ | refine yaa ?_ | refine yac ?_ | refine yaj ?_ | refine zT ?_ | refine zE ?_ | refine zX ?_))
      refine yas rfl (fun h9 => absurd h9 (by simp; omega)) (fun _ => ?_)
      (repeat (first | refine zI ?_ | refine zL ?_ | refine zC ?_ | refine yaf ?_ | refine yae ?_ | refine zR ?_ | refine zD ?_ | refine zK ?_ | refine zB ?_ | refine zA ?_ | refine zS ?_ | refine zU ?_ | refine zV ?_ | refine zF ?_ | with_reducible refine yab ?_ | with_reducible refine yad ?_ | refine yaa ?_ | refine yac ?_ | refine yaj ?_ | refine zT ?_ | refine zE ?_ | refine zX ?_))
      refine yas rfl (fun h9 => absurd h9 (by simp; omega)) (fun _ => ?_)
      (repeat (first | refine zI ?_ | refine zL ?_ | refine zC ?_ | refine yaf ?_ | refine yae ?_ | refine zR ?_ | refine zD ?_ | refine zK ?_ | refine zB ?_ | refine zA ?_ | refine zS ?_ | refine zU ?_ | refine zV ?_ | refine zF ?_ | with_reducible refine yab ?_ | with_reducible refine yad ?_ | refine yaa ?_ | refine yac ?_ | refine yaj ?_ | refine zT ?_ | refine zE ?_ | refine zX ?_))
      refine yas rfl (fun h9 => absurd h9 (by simp; omega)) (fun _ => ?_)
      (repeat (first | refine zI ?_ | refine zL ?_ | refine zC ?_ | refine yaf ?_ | refine yae ?_ | refine zR ?_ | refine zD ?_ | refine zK ?_ | refine zB ?_ | refine zA ?_ | refine zS ?_ | refine zU ?_ | refine zV ?_ | refine zF ?_ | with_reducible refine yab ?_ | with_reducible refine yad ?_ | refine yaa ?_ | refine yac ?_ | refine yaj ?_ | refine zT ?_ | refine zE ?_ | refine zX ?_))
      refine yas rfl (fun h9 => absurd h9 (by simp; omega)) (fun _ => ?_)
      (repeat (first | refine zI ?_ | refine zL ?_ | refine zC ?_ | refine yaf ?_ | refine yae ?_ | refine zR ?_ | refine zD ?_ | refine zK ?_ | refine zB ?_ | refine zA ?_ | refine zS ?_ | refine zU ?_ | refine zV ?_ | refine zF ?_ | with_reducible refine yab ?_ | with_reducible refine yad ?_ | refine yaa ?_ | refine yac ?_ | refine yaj ?_ | refine zT ?_ | refine zE ?_ | refine zX ?_))
      refine yas rfl (fun h9 => absurd h9 (by simp; omega)) (fun _ => ?_)
      (repeat (first | refine zI ?_ | refine zL ?_ | refine zC ?_ | refine yaf ?_ | refine yae ?_ | refine zR ?_ | refine zK ?_ | refine zB ?_ | refine zA ?_ | refine zS ?_ | refine zU ?_ | refine zV ?_ | refine zF ?_ | with_reducible refine yab ?_ | with_reducible refine yad ?_ | refine yaa ?_ | refine yac ?_ | refine yaj ?_ | refine zT ?_ | refine zE ?_ | refine zX ?_ | refine yak rfl rfl rfl rfl ?_ | refine L_wr (ca) rfl rfl rfl rfl (ybl rfl rfl) rfl rfl rfl rfl rfl ?_))
      (repeat (first | with_reducible refine yad ?_ | with_reducible refine yab ?_ | refine yac ?_ | refine yae ?_ | refine yaa ?_))
      refine ybr (lf := lfB) mixed (by kernel_rfl) rfl ?_
      (repeat (first | refine zI ?_ | refine zL ?_ | refine zC ?_ | refine zK ?_ | refine zB ?_ | refine zA ?_ | refine zS ?_ | refine zU ?_ | refine zV ?_ | refine zF ?_ | refine zX ?_ | refine yaf ?_ | refine yak rfl rfl rfl rfl ?_ | refine yap rfl rfl (binarySigns_con) rfl rfl ?_ | refine ycg tok rfl rfl rfl (by omega) (yfa hw) rfl rfl ?_))
      refine ydj (a := ba [32]) (b := ba w) rfl rfl (by rw [yau, yau]; simp; omega) rfl rfl ?_
      refine ydj (a := ba [32] ++ ba w) (b := ba [32]) rfl rfl (by rw [ByteArray.size_append, yau, yau]; simp; omega) rfl rfl ?_
      refine L_wr (yao true es names _ (ba [32] ++ ba w ++ ba [32]) (by rw [ByteArray.size_append, ByteArray.size_append, yau, yau]; have := hbla (ybk (yej t.1) a); simp only [List.length_append, List.length_cons, List.length_nil]; omega)) rfl rfl rfl rfl (ybl rfl rfl) rfl rfl rfl rfl rfl ?_
      (repeat (first | refine zI ?_ | refine zL ?_ | refine zC ?_ | refine yaf ?_ | refine yae ?_ | refine zR ?_ | refine zD ?_ | refine zK ?_ | refine zB ?_ | refine zA ?_ | refine zS ?_ | refine zU ?_ | refine zV ?_ | refine zF ?_ | with_reducible refine yab ?_ | with_reducible refine yad ?_ | refine yaa ?_ | refine yac ?_ | refine yaj ?_ | refine zT ?_ | refine zE ?_ | refine zX ?_ | refine yak rfl rfl rfl rfl ?_ | refine L_wr (cb) rfl rfl rfl rfl (ybl rfl rfl) rfl rfl rfl rfl rfl ?_))
      rw [ee, er]
      refine ybc ?_
      exact ⟨_, rfl, ybi _, yax (ybl rfl rfl)⟩
theorem brT0 (x : Bs) : brT false x = x := rfl
theorem write_tr {t : Tm} {a b c : Ex} (hes : es.length ≤ 1000) (hn : ∀ w ∈ names, w.length ≤ 24) (ht : ar t.1 = 3) (hEa : a.ok) (hEb : b.ok) (hEc : c.ok) (hab0 : ∀ x ∈ (Ex.tr t a b c).fl, argB names.length x = true) (iha : Writes es names a) (ihb : Writes es names b) (ihc : Writes es names c) : Writes es names (.tr t a b c) := by
  intro k level u l hlev hat hl
  have haa : ∀ x ∈ a.fl, argB names.length x = true := fun x hx => hab0 x (by simp [Ex.fl, hx])
  have hab : ∀ x ∈ b.fl, argB names.length x = true := fun x hx => hab0 x (by simp [Ex.fl, hx])
  have hk := hat.head rfl
  have hbd := hat.bound
  have hlt : k < es.length := (List.getElem?_eq_some_iff.1 hk).1
  obtain ⟨hata, hat2⟩ := AtE.tail (show (t :: (a.fl ++ (b.fl ++ c.fl))) <+: es.drop k from hat)
  have hat3 : (b.fl ++ c.fl) <+: es.drop (k + 1 + a.fl.length) := hat2
  have hatb : AtE es (k + 1 + a.fl.length) b := (List.prefix_append _ _).trans hat3
  have hatc : AtE es (k + 1 + a.fl.length + b.fl.length) c := by
    obtain ⟨p, hp⟩ := hat3
    refine ⟨p, ?_⟩
    rw [← List.drop_drop (i := b.fl.length), ← hp]
    simp
  have h0 : yej t.1 = 0 := by rw [ar_tr ht]; decide
  have hlb : ybk 0 b = false := by simp [ybk]
  have hlc : ybk 0 c = false := by simp [ybk]
  have er : k + 1 + a.fl.length + b.fl.length + c.fl.length = k + (Ex.tr t a b c).fl.length := by simp only [Ex.fl, List.length_cons, List.length_append]; omega
  have hll : l.length + 40 * (Ex.tr t a b c).fl.length ≤ 900000 := hl
  simp only [Ex.fl, List.length_cons, List.length_append] at hl hbd hll
  have hbla : ∀ c, (brT c (ybe false names a)).length ≤ 34 * a.fl.length := blen hn hEa haa
  have hblb := (ydm hn false b hEb hab).1
  by_cases hlo : yej t.1 < level
  · have hlo2 : ybk level (.tr t a b c) = true := decide_eq_true hlo
    rw [hlo2]
    have ca := iha (k + 1) 1 true (l ++ bl (ba [40])) (by omega) hata (by simp only [ycn]; simp only [List.length_append, List.length_cons, List.length_nil]; omega)
    have cb := ihb (k + 1 + a.fl.length) 0 true ((l ++ bl (ba [40])) ++ brT (ybk 1 a) (ybe false names a) ++ bl (ba [32, 63, 32])) (by omega) hatb (by simp only [ycn]; have := hbla (ybk 1 a); simp only [List.length_append, List.length_cons, List.length_nil]; omega)
    have cc := ihc (k + 1 + a.fl.length + b.fl.length) 0 true ((l ++ bl (ba [40])) ++ brT (ybk 1 a) (ybe false names a) ++ bl (ba [32, 63, 32]) ++ ybe false names b ++ bl (ba [32, 58, 32])) (by omega) hatc (by simp only [ycn]; have := hbla (ybk 1 a); have := hblb; simp only [List.length_append, List.length_cons, List.length_nil]; omega)
    rw [hlb] at cb
    rw [hlc] at cc
    simp only [brT0] at cb cc
    have ee : (l ++ bl (ba [40])) ++ brT (ybk 1 a) (ybe false names a) ++ bl (ba [32, 63, 32]) ++ ybe false names b ++ bl (ba [32, 58, 32]) ++ ybe false names c = (l ++ bl (ba [40])) ++ ybe false names (.tr t a b c) := by
      simp only [ycn]
      simp only [ybe, Bool.false_or, brT0]
      simp
    have hbl2 := ydm hn false (.tr t a b c) ⟨ht, hEa, hEb, hEc⟩ hab0
    refine conM_ofD tok Tryd.func19 rfl rfl Tryd.ntmps19 Tryd.results19 rfl (wr_cl rfl) ?_
    show AF _ _ _ _ (S _ _)
    refine yea (ydu ?_)
    refine yag (lf := lfT) rfl ?_
    (repeat (first | refine zI ?_ | refine zL ?_ | refine zC ?_ | refine zK ?_ | refine zB ?_ | refine zA ?_ | refine zS ?_ | refine zU ?_ | refine zV ?_ | refine zF ?_ | refine zX ?_ | refine yaf ?_))
    show AF _ _ _ _ (S _ _)
    refine yea (ydu ?_)
    refine yag (lf := lfT) rfl ?_
    (repeat (first | refine zI ?_ | refine zL ?_ | refine zC ?_ | refine zK ?_ | refine zB ?_ | refine zA ?_ | refine zS ?_ | refine zU ?_ | refine zV ?_ | refine zF ?_ | refine zX ?_ | refine yaf ?_ | refine yak rfl rfl rfl rfl ?_ | refine ycg tok rfl rfl rfl (by omega) (yey hk) rfl rfl ?_))
    show AF _ _ _ _ (S _ _)
    refine yea (ydu ?_)
    refine yag (lf := lfT) rfl ?_
    (repeat (first | refine zI ?_ | refine zL ?_ | refine zC ?_ | refine zK ?_ | refine zB ?_ | refine zA ?_ | refine zS ?_ | refine zU ?_ | refine zV ?_ | refine zF ?_ | refine zX ?_ | refine yaf ?_ | refine yap rfl rfl (ycl t.1) rfl rfl ?_))
    rw [h0]
    show AF _ _ _ _ (S _ _)
    refine yea ?_
    refine yea (ydu ?_)
    refine yag (lf := lfT) rfl ?_
    (repeat (first | refine zI ?_ | refine zL ?_ | refine zC ?_ | refine zK ?_ | refine zB ?_ | refine zA ?_ | refine zS ?_ | refine zU ?_ | refine zV ?_ | refine zF ?_ | refine zX ?_ | refine yaf ?_))
    show AF _ _ _ _ (S _ _)
    refine AF_cond rfl (fun _ => ?_) (fun h9 => absurd h9 (by simp; omega))
    refine yea (ydu ?_)
    refine yag (lf := lfT) rfl ?_
    (repeat (first | refine zI ?_ | refine zL ?_ | refine zC ?_ | refine zK ?_ | refine zB ?_ | refine zA ?_ | refine zS ?_ | refine zU ?_ | refine zV ?_ | refine zF ?_ | refine zX ?_ | refine yaf ?_ | refine yak rfl rfl rfl rfl ?_ | refine L_wr (yao u es names l (ba [40]) (by rw [yau]; simp; omega)) rfl rfl rfl rfl (ybl rfl rfl) rfl rfl rfl rfl rfl ?_))
    show AF _ _ _ _ (S _ _)
    refine AF_region_defer (lf := lfT) 3 rfl rfl rfl rfl rfl rfl (fun d h => by cases h) ?_
    (repeat (first | refine zI ?_ | refine zL ?_ | refine zC ?_ | refine zK ?_ | refine zB ?_ | refine zA ?_ | refine zS ?_ | refine zU ?_ | refine zV ?_ | refine zF ?_ | refine zX ?_ | refine yaf ?_ | refine yak rfl rfl rfl rfl ?_))
    refine ⟨rfl, _, _, _, ⟨_, Tryd.func42, rfl, rfl⟩, rfl, rfl, fun x hx => low_none rfl hx, ?_⟩
    show Lex _ _ _ _ _ [] _
    refine .nil ?_
    show A _ _ _ _ _
    refine A_weak (s' := S [(0, .lp 1001 0), (1, i64 k), (7, i64 t.1), (8, i64 (0 : Nat)), (1000000, .lp 1001 0), (1000001, strA (ba [41]))] (wrH true es names (l ++ bl (ba [40])))) ?_ ⟨subF_look ⟨rfl, rfl, rfl, rfl, rfl, rfl, trivial⟩, fun id x h => h⟩
    (repeat (first | refine zI ?_ | refine zL ?_ | refine zC ?_ | refine yaf ?_ | refine yae ?_ | refine zR ?_ | refine zD ?_ | refine zK ?_ | refine zB ?_ | refine zA ?_ | refine zS ?_ | refine zU ?_ | refine zV ?_ | refine zF ?_ | with_reducible refine yab ?_ | with_reducible refine yad ?_ | refine yaa ?_ | refine yac ?_ | refine yaj ?_ | refine zT ?_ | refine zE ?_ | refine zX ?_))
    (repeat (first | refine zI ?_ | refine zL ?_ | refine zC ?_ | refine yaf ?_ | refine yae ?_ | refine zR ?_ | refine zD ?_ | refine zK ?_ | refine zB ?_ | refine zA ?_ | refine zS ?_ | refine zU ?_ | refine zV ?_ | refine zF ?_ | with_reducible refine yab ?_ | with_reducible refine yad ?_ | refine yaa ?_ | refine yac ?_ | refine yaj ?_ | refine zT ?_ | refine zE ?_ | refine zX ?_ | refine yak rfl rfl rfl rfl ?_ | refine L_wr (ca) rfl rfl rfl rfl (ybl rfl rfl) rfl rfl rfl rfl rfl ?_ | refine L_wr (yao true es names ((l ++ bl (ba [40])) ++ brT (ybk 1 a) (ybe false names a)) (ba [32, 63, 32]) (by rw [yau]; (try simp only [ycn]); have := hbla (ybk 1 a); have := hblb; simp only [List.length_append, List.length_cons, List.length_nil]; omega)) rfl rfl rfl rfl (ybl rfl rfl) rfl rfl rfl rfl rfl ?_ | refine L_wr (cb) rfl rfl rfl rfl (ybl rfl rfl) rfl rfl rfl rfl rfl ?_ | refine L_wr (yao true es names ((l ++ bl (ba [40])) ++ brT (ybk 1 a) (ybe false names a) ++ bl (ba [32, 63, 32]) ++ ybe false names b) (ba [32, 58, 32]) (by rw [yau]; (try simp only [ycn]); have := hbla (ybk 1 a); have := hblb; simp only [List.length_append, List.length_cons, List.length_nil]; omega)) rfl rfl rfl rfl (ybl rfl rfl) rfl rfl rfl rfl rfl ?_ | refine L_wr (cc) rfl rfl rfl rfl (ybl rfl rfl) rfl rfl rfl rfl rfl ?_))
    rw [ee, er]
    refine ybc ?_
    refine ends_defer (h' := []) (args0 := [.lp 1001 0, strA (ba [41])]) (hm := wrH true es names (l ++ bl (ba [40]) ++ ybe false names (Ex.tr t a b c))) (hm' := wrH true es names (l ++ bl (ba [40]) ++ ybe false names (Ex.tr t a b c) ++ bl (ba [41]))) [(1001, 1001), (1003, 1003)] rfl rfl rfl ⟨rfl, rfl, trivial⟩ (w_writeString_K true es names _ (ba [41]) (by rw [yau, ycn]; simp only [List.length_append, List.length_cons, List.length_nil]; omega)) rfl rfl rfl rfl (by rw [renO_wr]; exact ybl rfl rfl) rfl (fun j ob hj hob => by cases hob) rfl (ybi _) (fun id o ho => ?_)
    rw [show l ++ brT true (ybe false names (Ex.tr t a b c)) = l ++ bl (ba [40]) ++ ybe false names (Ex.tr t a b c) ++ bl (ba [41]) by rw [ycn, ycn]; simp [brT]] at ho
    exact ho
  · have hlo2 : ybk level (.tr t a b c) = false := decide_eq_false hlo
    rw [hlo2]
    have ca := iha (k + 1) 1 u l (by omega) hata (by omega)
    have cb := ihb (k + 1 + a.fl.length) 0 true (l ++ brT (ybk 1 a) (ybe false names a) ++ bl (ba [32, 63, 32])) (by omega) hatb (by simp only [ycn]; have := hbla (ybk 1 a); simp only [List.length_append, List.length_cons, List.length_nil]; omega)
    have cc := ihc (k + 1 + a.fl.length + b.fl.length) 0 true (l ++ brT (ybk 1 a) (ybe false names a) ++ bl (ba [32, 63, 32]) ++ ybe false names b ++ bl (ba [32, 58, 32])) (by omega) hatc (by simp only [ycn]; have := hbla (ybk 1 a); have := hblb; simp only [List.length_append, List.length_cons, List.length_nil]; omega)
    rw [hlb] at cb
    rw [hlc] at cc
    simp only [brT0] at cb cc
    have ee : l ++ brT (ybk 1 a) (ybe false names a) ++ bl (ba [32, 63, 32]) ++ ybe false names b ++ bl (ba [32, 58, 32]) ++ ybe false names c = l ++ ybe false names (.tr t a b c) := by
      simp only [ycn]
      simp only [ybe, Bool.false_or, brT0]
      simp
    have hbl2 := ydm hn false (.tr t a b c) ⟨ht, hEa, hEb, hEc⟩ hab0
    refine yco tok Tryd.func19 rfl rfl Tryd.ntmps19 Tryd.results19 rfl (wr_cl rfl) ?_
    show A _ _ _ _ (S _ _)
    (repeat (first | refine zI ?_ | refine zL ?_ | refine zC ?_ | refine yaf ?_ | refine yae ?_ | refine zR ?_ | refine zD ?_ | refine zK ?_ | refine zB ?_ | refine zA ?_ | refine zS ?_ | refine zU ?_ | refine zV ?_ | refine zF ?_ | with_reducible refine yab ?_ | with_reducible refine yad ?_ | refine yaa ?_ | refine yac ?_ | refine yaj ?_ | refine zT ?_ | refine zE ?_ | refine zX ?_ | refine yak rfl rfl rfl rfl ?_ | refine ycg tok rfl rfl rfl (by omega) (yey hk) rfl rfl ?_ | refine yap rfl rfl (ycl t.1) rfl rfl ?_))
    rw [h0]
    (repeat (first | refine zI ?_ | refine zL ?_ | refine zC ?_ | refine yaf ?_ | refine yae ?_ | refine zR ?_ | refine zD ?_ | refine zK ?_ | refine zB ?_ | refine zA ?_ | refine zS ?_ | refine zU ?_ | refine zV ?_ | refine zF ?_ | with_reducible refine yab ?_ | with_reducible refine yad ?_ | refine yaa ?_ | refine yac ?_ | refine yaj ?_ | refine zT ?_ | refine zE ?_ | refine zX ?_))
    refine yas rfl (fun h9 => absurd h9 (by simp; omega)) (fun _ => ?_)
    (repeat (first | refine zI ?_ | refine zL ?_ | refine zC ?_ | refine yaf ?_ | refine yae ?_ | refine zR ?_ | refine zD ?_ | refine zK ?_ | refine zB ?_ | refine zA ?_ | refine zS ?_ | refine zU ?_ | refine zV ?_ | refine zF ?_ | with_reducible refine yab ?_ | with_reducible refine yad ?_ | refine yaa ?_ | refine yac ?_ | refine yaj ?_ | refine zT ?_ | refine zE ?_ | refine zX ?_))
    (repeat (first | refine zI ?_ | refine zL ?_ | refine zC ?_ | refine yaf ?_ | refine yae ?_ | refine zR ?_ | refine zD ?_ | refine zK ?_ | refine zB ?_ | refine zA ?_ | refine zS ?_ | refine zU ?_ | refine zV ?_ | refine zF ?_ | with_reducible refine yab ?_ | with_reducible refine yad ?_ | refine yaa ?_ | refine yac ?_ | refine yaj ?_ | refine zT ?_ | refine zE ?_ | refine zX ?_ | refine yak rfl rfl rfl rfl ?_ | refine L_wr (ca) rfl rfl rfl rfl (ybl rfl rfl) rfl rfl rfl rfl rfl ?_ | refine L_wr (yao true es names (l ++ brT (ybk 1 a) (ybe false names a)) (ba [32, 63, 32]) (by rw [yau]; (try simp only [ycn]); have := hbla (ybk 1 a); have := hblb; simp only [List.length_append, List.length_cons, List.length_nil]; omega)) rfl rfl rfl rfl (ybl rfl rfl) rfl rfl rfl rfl rfl ?_ | refine L_wr (cb) rfl rfl rfl rfl (ybl rfl rfl) rfl rfl rfl rfl rfl ?_ | refine L_wr (yao true es names (l ++ brT (ybk 1 a) (ybe false names a) ++ bl (ba [32, 63, 32]) ++ ybe false names b) (ba [32, 58, 32]) (by rw [yau]; (try simp only [ycn]); have := hbla (ybk 1 a); have := hblb; simp only [List.length_append, List.length_cons, List.length_nil]; omega)) rfl rfl rfl rfl (ybl rfl rfl) rfl rfl rfl rfl rfl ?_ | refine L_wr (cc) rfl rfl rfl rfl (ybl rfl rfl) rfl rfl rfl rfl rfl ?_))
    rw [ee, er]
    refine ybc ?_
    exact ⟨_, rfl, ybi _, yax (ybl rfl rfl)⟩
theorem write_all (hes : es.length ≤ 1000) (hn : ∀ w ∈ names, w.length ≤ 24) : ∀ (E : Ex), E.ok → (∀ x ∈ E.fl, argB names.length x = true) → Writes es names E
  | .lf t, hE, ha => write_lf hes hn hE (ha t (by simp [Ex.fl]))
  | .un t a, hE, ha => write_un hes hn hE.1 hE.2 (fun x hx => ha x (by simp [Ex.fl, hx])) (write_all hes hn a hE.2 fun x hx => ha x (by simp [Ex.fl, hx]))
  | .bi t a b, hE, ha => write_bi hes hn hE.1 hE.2.1 hE.2.2 ha (write_all hes hn a hE.2.1 fun x hx => ha x (by simp [Ex.fl, hx])) (write_all hes hn b hE.2.2 fun x hx => ha x (by simp [Ex.fl, hx]))
  | .tr t a b c, hE, ha => write_tr hes hn hE.1 hE.2.1 hE.2.2.1 hE.2.2.2 ha (write_all hes hn a hE.2.1 fun x hx => ha x (by simp [Ex.fl, hx])) (write_all hes hn b hE.2.2.1 fun x hx => ha x (by simp [Ex.fl, hx])) (write_all hes hn c hE.2.2.2 fun x hx => ha x (by simp [Ex.fl, hx]))
end
end Go.Proofs.YtcpgpiabeimefaaDoor
set_option linter.unusedVariables false
set_option maxRecDepth 100000
set_option maxHeartbeats 4000000
namespace Go.Proofs.YtcpgpiabeimefaaDoor
open Go.RowKit
def formatA (q : Bs × Int) : AV := .tup [strA (ba q.1), i64 q.2]
theorem formatX_bad {nm : Bs → Bool} {names : List Bs} {e : List Tm} (h : ¬ (yff nm names = true ∧ yep e names.length = true)) : formatX nm names e = ([], 7) := by rw [formatX, if_neg h]
theorem formatX_good {nm : Bs → Bool} {names : List Bs} {e : List Tm} (h1 : yff nm names = true) (h2 : yep e names.length = true) : formatX nm names e = (formatT false names e, 0) := by rw [formatX, if_pos ⟨h1, h2⟩]
theorem good_len {names : List Bs} (h : yff nmW names = true) : ∀ w ∈ names, w.length ≤ 24 := fun w hw => (nmW_spec ((goodL_spec h).2.1 w hw)).1.1
theorem body_ne {names : List Bs} (h : yff nmW names = true) {E : Ex} (hE : E.ok) (ha : ∀ t ∈ E.fl, argB names.length t = true) (al : Bool) : ybe al names E ≠ [] := by
  obtain ⟨c, y, h1, _⟩ := wr_head (nmW_names.words h) (body_wr al E hE ha)
  rw [h1]
  simp
theorem format_con (e : List Tm) (names : List Bs) (he : e.length ≤ 1000000) (hl : names.length ≤ 1000) (hn : ∀ x ∈ names, x.length ≤ 1000) : Con Tryd.prog 8 [ybz e, ybu names] (formatA (formatX nmW names e)) := by
  refine yed Tryd.func8 rfl rfl Tryd.ntmps8 Tryd.results8 rfl rfl ?_
  (repeat (first | refine zI ?_ | refine zL ?_ | refine zC ?_ | refine yaf ?_ | refine yae ?_ | refine zR ?_ | refine zD ?_ | refine zK ?_ | refine zB ?_ | refine zA ?_ | refine zS ?_ | refine zU ?_ | refine zV ?_ | refine zF ?_ | with_reducible refine yab ?_ | with_reducible refine yad ?_ | refine yaa ?_ | refine yac ?_ | refine yaj ?_ | refine zT ?_ | refine zE ?_ | refine zX ?_ | refine yap rfl rfl (good_con names hl hn) rfl rfl ?_))
  refine ycm 10 rfl (fun h1 => ?_) (fun h1 => ?_)
  · have h1 : ¬ yff nmW names = true := by simpa using h1
    (repeat (first | refine zI ?_ | refine zL ?_ | refine zC ?_ | refine yaf ?_ | refine yae ?_ | refine zR ?_ | refine zD ?_ | refine zK ?_ | refine zB ?_ | refine zA ?_ | refine zS ?_ | refine zU ?_ | refine zV ?_ | refine zF ?_ | with_reducible refine yab ?_ | with_reducible refine yad ?_ | refine yaa ?_ | refine yac ?_ | refine yaj ?_ | refine zT ?_ | refine zE ?_ | refine zX ?_))
    refine ybc ?_; refine ⟨_, rfl, ?_⟩
    rw [formatX_bad (fun h => h1 h.1)]
    exact Frz.pure
  have h1 : yff nmW names = true := by simpa using h1
  (repeat (first | refine zI ?_ | refine zL ?_ | refine zC ?_ | refine yaf ?_ | refine yae ?_ | refine zR ?_ | refine zD ?_ | refine zK ?_ | refine zB ?_ | refine zA ?_ | refine zS ?_ | refine zU ?_ | refine zV ?_ | refine zF ?_ | with_reducible refine yab ?_ | with_reducible refine yad ?_ | refine yaa ?_ | refine yac ?_ | refine yaj ?_ | refine zT ?_ | refine zE ?_ | refine zX ?_ | refine yap rfl rfl (xvalid_con e names.length he) rfl rfl ?_))
  refine yas rfl (fun h2 => ?_) (fun h2 => ?_)
  · have h2 : ¬ yep e names.length = true := by simpa using h2
    (repeat (first | refine zI ?_ | refine zL ?_ | refine zC ?_ | refine yaf ?_ | refine yae ?_ | refine zR ?_ | refine zD ?_ | refine zK ?_ | refine zB ?_ | refine zA ?_ | refine zS ?_ | refine zU ?_ | refine zV ?_ | refine zF ?_ | with_reducible refine yab ?_ | with_reducible refine yad ?_ | refine yaa ?_ | refine yac ?_ | refine yaj ?_ | refine zT ?_ | refine zE ?_ | refine zX ?_))
    refine ybc ?_; refine ⟨_, rfl, ?_⟩
    rw [formatX_bad (fun h => h2 h.2)]
    exact Frz.pure
  have h2 : yep e names.length = true := by simpa using h2
  obtain ⟨E, hp, hE, hfl, hlen, hargs⟩ := valid_spec h2
  have hnl := good_len h1
  have hw := write_all (es := e) (names := names) (by omega) hnl E hE (hfl ▸ hargs) 0 0 false [] (by omega) (by rw [AtE, hfl]; exact List.prefix_refl _) (by rw [hfl]; simp; omega)
  have hlo : ybk 0 E = false := by simp [ybk]
  rw [hlo, Nat.zero_add, hfl] at hw
  have hft : formatT false names e = ybe false names E := by rw [formatT, hp]
  have hbl := (ydm hnl false E hE (hfl ▸ hargs)).1
  rw [hfl] at hbl
  have hne2 := body_ne h1 hE (hfl ▸ hargs) false
  (repeat (first | with_reducible refine yad ?_ | with_reducible refine yab ?_ | refine yac ?_ | refine yae ?_ | refine yaa ?_))
  refine yag (lf := lfT) rfl ?_
  (repeat (first | refine zC ?_ | refine zU ?_))
  refine L_allocT tok rfl rfl rfl rfl rfl rfl rfl ?_
  refine L_storeT tok rfl rfl rfl rfl rfl rfl (List.cons_ne_nil _ _) rfl rfl rfl ?_
  refine yaf ?_
  (repeat (first | with_reducible refine yad ?_ | with_reducible refine yab ?_ | refine yac ?_ | refine yae ?_ | refine yaa ?_))
  refine A_ownCT 6 1 1003 1 5 rfl rfl rfl rfl rfl ?_
  refine yag (lf := lfT) rfl ?_
  refine yex [(1001, 6), (1003, 1003)] hw rfl rfl rfl rfl rfl rfl rfl (yam rfl (yam rfl yat)) rfl rfl rfl rfl rfl rfl ?_
  refine yaf ?_
  (repeat (first | with_reducible refine yad ?_ | with_reducible refine yab ?_ | refine yac ?_ | refine yae ?_ | refine yaa ?_)); refine yag (lf := lfT) rfl ?_
  refine zC ?_
  refine yex [(1001, 6), (1003, 1003)] (w_len_con true e names _ (by simp only [brT, List.nil_append]; omega)) rfl rfl rfl rfl rfl rfl rfl (yam rfl (yam rfl yat)) rfl rfl rfl rfl rfl rfl ?_
  (repeat (first | refine zI ?_ | refine zL ?_ | refine zC ?_ | refine zK ?_ | refine zB ?_ | refine zA ?_ | refine zS ?_ | refine zU ?_ | refine zV ?_ | refine zF ?_ | refine zX ?_ | refine yaf ?_))
  (repeat (first | with_reducible refine yad ?_ | with_reducible refine yab ?_ | refine yac ?_ | refine yae ?_ | refine yaa ?_))
  refine yas rfl (fun h9 => absurd h9 (by simp [brT]; omega)) (fun _ => ?_)
  (repeat (first | with_reducible refine yad ?_ | with_reducible refine yab ?_ | refine yac ?_ | refine yae ?_ | refine yaa ?_)); refine yag (lf := lfT) rfl ?_
  refine zC ?_
  refine yex [(1001, 6), (1003, 1003)] (w_string_con true e names _ (by simpa [brT] using hne2) (by simp only [brT, List.nil_append]; omega)) rfl rfl rfl rfl rfl rfl rfl (yam rfl (yam rfl yat)) rfl rfl rfl rfl rfl rfl ?_
  (repeat (first | refine zI ?_ | refine zL ?_ | refine zC ?_ | refine zK ?_ | refine zB ?_ | refine zA ?_ | refine zS ?_ | refine zU ?_ | refine zV ?_ | refine zF ?_ | refine zX ?_ | refine yaf ?_))
  (repeat (first | with_reducible refine yad ?_ | with_reducible refine yab ?_ | refine yac ?_ | refine yae ?_ | refine yaa ?_))
  refine ybc ?_; refine ⟨_, rfl, ?_⟩
  rw [formatX_good h1 h2, hft]
  exact Frz.pure
end Go.Proofs.YtcpgpiabeimefaaDoor
set_option linter.unusedVariables false
set_option maxRecDepth 100000
set_option maxHeartbeats 4000000
namespace Go.Proofs.YtcpgpiabeimefaaDoor
open Go.RowKit
section
variable {N : Nat} {ops : Array Oper} {lf : Oper → Bool} {Q : SS → Prop} {t : List (Nat × AV)} {h : List (Nat × Option LObj)} {rest : List Oper} {d : Nat} {ty : TypeId} {pos : String} {af : Array Edge} {gd : Option (Nat × Bool)}
theorem L_true {P : Program} {l : List Oper} (d : Nat) {b : Bool} (hb : ybb t d = some (.v (.bool b))) (he : b = true) (k : Lex P N ops lf Q l (S ((d, .v (.bool true)) :: t) h)) : Lex P N ops lf Q l (S t h) :=
  ycm d hb (fun _ => k) (fun e => by rw [he] at e; cases e)
end
def lightN (names : List Bs) : Bool := decide (names.length ≤ 10) && names.all fun w => decide (w.length ≤ 40)
theorem lightN_spec {names : List Bs} (h : lightN names = true) : names.length ≤ 10 ∧ ∀ w ∈ names, w.length ≤ 40 := by
  simp only [lightN, Bool.and_eq_true, decide_eq_true_eq, List.all_eq_true] at h
  exact h
theorem light06_con (names : List Bs) : Con Tryd.prog 4 [ybu names] (boolA (lightN names)) := by
  refine yed Tryd.func4 rfl rfl Tryd.ntmps4 Tryd.results4 rfl rfl ?_
  (repeat (first | refine zI ?_ | refine zL ?_ | refine zC ?_ | refine yaf ?_ | refine yae ?_ | refine zR ?_ | refine zD ?_ | refine zK ?_ | refine zB ?_ | refine zA ?_ | refine zS ?_ | refine zU ?_ | refine zV ?_ | refine zF ?_ | with_reducible refine yab ?_ | with_reducible refine yad ?_ | refine yaa ?_ | refine yac ?_ | refine yaj ?_ | refine zT ?_ | refine zE ?_ | refine zX ?_))
  refine yas rfl (fun h1 => ?_) (fun h1 => ?_)
  · have h1 : ¬ names.length ≤ 10 := by simp at h1; omega
    (repeat (first | refine zI ?_ | refine zL ?_ | refine zC ?_ | refine yaf ?_ | refine yae ?_ | refine zR ?_ | refine zD ?_ | refine zK ?_ | refine zB ?_ | refine zA ?_ | refine zS ?_ | refine zU ?_ | refine zV ?_ | refine zF ?_ | with_reducible refine yab ?_ | with_reducible refine yad ?_ | refine yaa ?_ | refine yac ?_ | refine yaj ?_ | refine zT ?_ | refine zE ?_ | refine zX ?_))
    refine ybc ?_; refine ⟨_, rfl, ?_⟩
    exact ycj (by simp [lightN, h1])
  have h1 : names.length ≤ 10 := by simp at h1; omega
  (repeat (first | refine zI ?_ | refine zL ?_ | refine zC ?_ | refine yaf ?_ | refine yae ?_ | refine zR ?_ | refine zD ?_ | refine zK ?_ | refine zB ?_ | refine zA ?_ | refine zS ?_ | refine zU ?_ | refine zV ?_ | refine zF ?_ | with_reducible refine yab ?_ | with_reducible refine yad ?_ | refine yaa ?_ | refine yac ?_ | refine yaj ?_ | refine zT ?_ | refine zE ?_ | refine zX ?_))
  refine A_inv (α := Nat) (fun k => [(3, i64 k), (0, ybu names)]) (fun k => []) (fun k => names.length - k) (fun k => k ≤ names.length ∧ (names.take k).all (fun w => decide (w.length ≤ 40)) = true) 0 ⟨by omega, by simp⟩ (by (repeat (first | exact ydt | refine ycz rfl ?_))) yat ?_
  rintro k ⟨hk, ha⟩
  (repeat (first | refine zI ?_ | refine zL ?_ | refine zC ?_ | refine yaf ?_ | refine yae ?_ | refine zR ?_ | refine zD ?_ | refine zK ?_ | refine zB ?_ | refine zA ?_ | refine zS ?_ | refine zU ?_ | refine zV ?_ | refine zF ?_ | with_reducible refine yab ?_ | with_reducible refine yad ?_ | refine yaa ?_ | refine yac ?_ | refine yaj ?_ | refine zT ?_ | refine zE ?_ | refine zX ?_))
  refine yas rfl (fun h2 => ?_) (fun h2 => ?_)
  · have h2 : k < names.length := by simpa using h2
    obtain ⟨x, hx⟩ := getN h2
    (repeat (first | refine zI ?_ | refine zL ?_ | refine zC ?_ | refine yaf ?_ | refine yae ?_ | refine zR ?_ | refine zD ?_ | refine zK ?_ | refine zB ?_ | refine zA ?_ | refine zS ?_ | refine zU ?_ | refine zV ?_ | refine zF ?_ | with_reducible refine yab ?_ | with_reducible refine yad ?_ | refine yaa ?_ | refine yac ?_ | refine yaj ?_ | refine zT ?_ | refine zE ?_ | refine zX ?_ | refine ycg tok rfl rfl rfl (by omega) (yey hx) rfl rfl ?_))
    refine yas rfl (fun h3 => ?_) (fun h3 => ?_)
    · have h3 : 40 < x.length := by have h4 := h3; simp [yau] at h4; omega
      (repeat (first | refine zI ?_ | refine zL ?_ | refine zC ?_ | refine yaf ?_ | refine yae ?_ | refine zR ?_ | refine zD ?_ | refine zK ?_ | refine zB ?_ | refine zA ?_ | refine zS ?_ | refine zU ?_ | refine zV ?_ | refine zF ?_ | with_reducible refine yab ?_ | with_reducible refine yad ?_ | refine yaa ?_ | refine yac ?_ | refine yaj ?_ | refine zT ?_ | refine zE ?_ | refine zX ?_))
      refine ybc ?_; refine ⟨_, rfl, ?_⟩
      refine ycj ?_
      have : names.all (fun w => decide (w.length ≤ 40)) = false := by
        rw [List.all_eq_false]
        exact ⟨x, List.mem_of_getElem? hx, by simp; omega⟩
      simp [lightN, this]
    · have h3 : x.length ≤ 40 := by have h4 := h3; simp [yau] at h4; omega
      (repeat (first | refine zI ?_ | refine zL ?_ | refine zC ?_ | refine yaf ?_ | refine yae ?_ | refine zR ?_ | refine zD ?_ | refine zK ?_ | refine zB ?_ | refine zA ?_ | refine zS ?_ | refine zU ?_ | refine zV ?_ | refine zF ?_ | with_reducible refine yab ?_ | with_reducible refine yad ?_ | refine yaa ?_ | refine yac ?_ | refine yaj ?_ | refine zT ?_ | refine zE ?_ | refine zX ?_))
      refine rnd (k + 1) ⟨by omega, ?_⟩ (by omega) (by (repeat (first | exact ydt | refine ycz rfl ?_))) yat
      rw [take_next hx, List.all_append, ha]
      simp [h3]
  · have h2 : names.length ≤ k := by simpa using h2
    (repeat (first | refine zI ?_ | refine zL ?_ | refine zC ?_ | refine yaf ?_ | refine yae ?_ | refine zR ?_ | refine zD ?_ | refine zK ?_ | refine zB ?_ | refine zA ?_ | refine zS ?_ | refine zU ?_ | refine zV ?_ | refine zF ?_ | with_reducible refine yab ?_ | with_reducible refine yad ?_ | refine yaa ?_ | refine yac ?_ | refine yaj ?_ | refine zT ?_ | refine zE ?_ | refine zX ?_))
    refine ybc ?_; refine ⟨_, rfl, ?_⟩
    exact ycj (by rw [List.take_of_length_le h2] at ha; simp [lightN, ha, h1])
def awT : Bs := [109, 105, 110, 40, 113, 46, 100, 41, 43, 49]
def awE : List Tm := [(33, 0), (24, 0), (12, 0), (1, 1)]
def awF : Bs := [109, 105, 110, 40, 113, 46, 100, 41, 32, 43, 32, 49]
theorem aw_f : formatX nmW [[100], [112]] awE = (awF, 0) := by kernel_rfl
theorem aw_p : yby nmW [[100], [112]] (ba awT) = (awE, 0, 0) := by kernel_rfl
theorem aw_pcon : Con Tryd.prog 7 [strA (ba awT), ybu [[100], [112]]] (parseA (awE, 0, 0)) := by
  rw [← aw_p]
  exact parse_con _ _ (by decide) (by decide) (by decide)
theorem aw_fcon : Con Tryd.prog 8 [ybz awE, ybu [[100], [112]]] (formatA (awF, 0)) := by
  rw [← aw_f]
  exact format_con _ _ (by decide) (by decide) (by decide)
theorem ydk : Con Tryd.prog 5 [] (boolA true) := by
  refine yed Tryd.func5 rfl rfl Tryd.ntmps5 Tryd.results5 rfl rfl ?_
  (repeat (first | refine zI ?_ | refine zL ?_ | refine zC ?_ | refine yaf ?_ | refine yae ?_ | refine zR ?_ | refine zD ?_ | refine zK ?_ | refine zB ?_ | refine zA ?_ | refine zS ?_ | refine zU ?_ | refine zV ?_ | refine zF ?_ | with_reducible refine yab ?_ | with_reducible refine yad ?_ | refine yaa ?_ | refine yac ?_ | refine yaj ?_ | refine zT ?_ | refine zE ?_ | refine zX ?_ | refine yap rfl rfl aw_pcon rfl rfl ?_ | refine yap rfl rfl aw_fcon rfl rfl ?_))
  refine L_true 20 rfl (by simp) ?_
  (repeat (first | refine zI ?_ | refine zL ?_ | refine zC ?_ | refine yaf ?_ | refine yae ?_ | refine zR ?_ | refine zD ?_ | refine zK ?_ | refine zB ?_ | refine zA ?_ | refine zS ?_ | refine zU ?_ | refine zV ?_ | refine zF ?_ | with_reducible refine yab ?_ | with_reducible refine yad ?_ | refine yaa ?_ | refine yac ?_ | refine yaj ?_ | refine zT ?_ | refine zE ?_ | refine zX ?_))
  refine L_true 24 rfl (by simp) ?_
  (repeat (first | refine zI ?_ | refine zL ?_ | refine zC ?_ | refine yaf ?_ | refine yae ?_ | refine zR ?_ | refine zD ?_ | refine zK ?_ | refine zB ?_ | refine zA ?_ | refine zS ?_ | refine zU ?_ | refine zV ?_ | refine zF ?_ | with_reducible refine yab ?_ | with_reducible refine yad ?_ | refine yaa ?_ | refine yac ?_ | refine yaj ?_ | refine zT ?_ | refine zE ?_ | refine zX ?_))
  refine L_true 29 rfl (by simp [awE]) ?_
  (repeat (first | refine zI ?_ | refine zL ?_ | refine zC ?_ | refine yaf ?_ | refine yae ?_ | refine zR ?_ | refine zD ?_ | refine zK ?_ | refine zB ?_ | refine zA ?_ | refine zS ?_ | refine zU ?_ | refine zV ?_ | refine zF ?_ | with_reducible refine yab ?_ | with_reducible refine yad ?_ | refine yaa ?_ | refine yac ?_ | refine yaj ?_ | refine zT ?_ | refine zE ?_ | refine zX ?_))
  refine ycg tok rfl rfl rfl (by decide) (row := [i64 33, i64 0]) rfl rfl rfl ?_
  (repeat (first | refine zI ?_ | refine zL ?_ | refine zC ?_ | refine yaf ?_ | refine yae ?_ | refine zR ?_ | refine zD ?_ | refine zK ?_ | refine zB ?_ | refine zA ?_ | refine zS ?_ | refine zU ?_ | refine zV ?_ | refine zF ?_ | with_reducible refine yab ?_ | with_reducible refine yad ?_ | refine yaa ?_ | refine yac ?_ | refine yaj ?_ | refine zT ?_ | refine zE ?_ | refine zX ?_))
  refine ybc ?_; refine ⟨_, rfl, ?_⟩
  exact ycj (beq_self_eq_true (ba awF).toList)
end Go.Proofs.YtcpgpiabeimefaaDoor
set_option linter.unusedVariables false
set_option maxRecDepth 100000
set_option maxHeartbeats 4000000
namespace Go.Proofs.YtcpgpiabeimefaaDoor
open Go.ChangeShapes Go.WideShapes Go.RowKit
section
variable {H : Type} {enc : TypeId × Value → H} {w : World} {v : Value} {base : Nat} {d : DataW H} {ps : List MemPlace}
def NamesOk (w : World) (v : Value) (l : List Bs) : Prop := Seq (fun cs (x : Bs) => cs = [.string (ba x)]) 1 w v l
theorem open_names (hv : Value.okWide Tryd.prog w .any base 22 v) (h : DataW.Trod enc Tryd.prog w 0 (fun _ => true) true 22 v d ps) : ∃ l, NamesOk w v l := by
  refine open_seq_arg (R := fun cs (x : Bs) => cs = [.string (ba x)]) Tryd.underlying22 (by kernel_rfl) (Nat.succ_pos 0) (fun cs h => ?_) hv h
  obtain ⟨s, hs, _⟩ := rd_string Tryd.underlying9 h
  exact ⟨bl s, by rw [hs, ba_bl]⟩
theorem names_rel {lv : Live} {l : List Bs} (h : NamesOk w v l) : Rel (okW w) w lv (ybu l) v :=
  rel_of_seq h (fun _ => rfl) (fun x c hc => by simp at hc; subst hc; rfl) fun x _ cs hc => by
    subst hc
    exact relAll_cons (.v _) relAll_nil
end
end Go.Proofs.YtcpgpiabeimefaaDoor
