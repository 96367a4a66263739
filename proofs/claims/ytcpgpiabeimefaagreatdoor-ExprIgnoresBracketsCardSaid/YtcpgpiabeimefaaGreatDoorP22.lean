/- Part 22 of the texts under ExprParses,ExprIsStable,ExprReadsBack,ExprIgnoresBrackets,ExprFormats,ExprBracketsEverything: joined, with what it needs alone. -/
import Derived.Test.YtcpgpiabeimefaaGreatDoorP11
import Derived.Test.YtcpgpiabeimefaaGreatDoorP15
import Derived.Test.YtcpgpiabeimefaaGreatDoorP21
set_option linter.unusedVariables false
set_option maxRecDepth 100000
set_option maxHeartbeats 4000000
namespace Go.Proofs.YtcpgpiabeimefaaGreatDoor
open Go.RowKit
def AtE (es : List Tm) (k : Nat) (E : Ex) : Prop := E.fl <+: es.drop k
theorem fl_pos (E : Ex) : 1 ≤ E.fl.length := by cases E <;> simp [Ex.fl] <;> omega
theorem AtE.bound {es : List Tm} {k : Nat} {E : Ex} (h : AtE es k E) : k + E.fl.length ≤ es.length := by
  have h1 := h.length_le
  have h2 := fl_pos E
  rw [List.length_drop] at h1
  omega
theorem AtE.head {es : List Tm} {k : Nat} {E : Ex} {t : Tm} {r : List Tm} (h : AtE es k E) (hE : E.fl = t :: r) : es[k]? = some t := by
  obtain ⟨p, hp⟩ := h
  rw [hE] at hp
  have := congrArg (fun l => l[0]?) hp
  simpa using this.symm
theorem AtE.tail {es : List Tm} {k : Nat} {t : Tm} {x y : List Tm} (h : (t :: (x ++ y)) <+: es.drop k) : x <+: es.drop (k + 1) ∧ y <+: es.drop (k + 1 + x.length) := by
  obtain ⟨p, hp⟩ := h
  have h1 : es.drop (k + 1) = x ++ (y ++ p) := by
    rw [← List.tail_drop, ← hp]; simp
  refine ⟨⟨y ++ p, h1.symm⟩, ⟨p, ?_⟩⟩
  rw [← List.drop_drop, h1]
  simp
def Writes (es : List Tm) (names : List Bs) (E : Ex) : Prop := ∀ (k level : Nat) (u : Bool) (l : Bs), level ≤ 6 → AtE es k E → l.length + 40 * E.fl.length ≤ 900000 → ConM Tryz.prog 32 [.lp 1001 0, i64 k, i64 level] (yaq (wrH u es names l)) (i64 (k + E.fl.length : Nat)) (yaq (wrH true es names (l ++ brT (ybp level E) (ybe false names E))))
section
variable {es : List Tm} {names : List Bs}
theorem blen (hn : ∀ w ∈ names, w.length ≤ 24) {E : Ex} (hE : E.ok) (ha : ∀ t ∈ E.fl, argB names.length t = true) (b : Bool) : (brT b (ybe false names E)).length ≤ 34 * E.fl.length := by
  have h1 := (ydq hn false E hE ha).1
  have h2 := brT_len b (ybe false names E)
  omega
theorem lev_un {op : Int} (h : op = 18 ∨ op = 19) : yef op = 6 := by rcases h with rfl | rfl <;> decide
theorem lev_bi {op : Int} (h : 30 ≤ op ∧ op ≤ 42) : 1 ≤ yef op ∧ yef op ≤ 5 := by
  obtain ⟨k, hk⟩ := fin_of (n := 13) h.1 (by omega)
  have := bin_op k
  rw [hk]
  exact ⟨this.2.2.1, this.2.2.2.1⟩
theorem ar_un {op : Int} (h : ar op = 1) : 18 ≤ op ∧ op ≤ 29 := by unfold ar at h; (repeat' split at h) <;> omega
theorem ar_bi {op : Int} (h : ar op = 2) : 30 ≤ op ∧ op ≤ 42 := by unfold ar at h; (repeat' split at h) <;> omega
theorem ar_tr {op : Int} (h : ar op = 3) : op = 43 := by unfold ar at h; (repeat' split at h) <;> omega
theorem bin_len : ∀ w ∈ binL, w.length ≤ 2 := by decide
theorem agg_len : ∀ w ∈ aggL, w.length ≤ 6 := by decide
theorem primary_agg {t : Tm} {a : Ex} {u : Bool} {l : Bs} {k : Nat} (ht : 20 ≤ t.1 ∧ t.1 ≤ 29) (hes : es.length ≤ 1000) (hn : ∀ w ∈ names, w.length ≤ 24) (hE : a.ok) (ha : ∀ x ∈ a.fl, argB names.length x = true) (hat : AtE es k (.un t a)) (iha : Writes es names a) (hl : l.length + 40 * (Ex.un t a).fl.length ≤ 900000) : ConM Tryz.prog 67 [.lp 1001 0, i64 k] (yaq (wrH u es names l)) (i64 (k + (Ex.un t a).fl.length : Nat)) (yaq (wrH true es names (l ++ ybe false names (.un t a)))) := by
  have hk := hat.head rfl
  have hbd := hat.bound
  have hlt : k < es.length := (List.getElem?_eq_some_iff.1 hk).1
  have hata : AtE es (k + 1) a := (AtE.tail (y := []) (by have h : (t :: a.fl) <+: es.drop k := hat; simpa using h)).1
  simp only [Ex.fl, List.length_cons] at hl hbd
  have hagg : aggB t.1 = true := by simp [aggB, ht.1, ht.2]
  obtain ⟨w, hw⟩ := getN' (l := aggL) (k := (t.1 - 20).toNat) (by show _ < 10; omega)
  have hwl := agg_len w (List.mem_of_getElem? hw)
  have hwE : aggW t.1 = w := by rw [aggW, hw]; rfl
  have ca := iha (k + 1) 0 true (l ++ (w ++ [40])) (by omega) hata (by simp only [List.length_append, List.length_cons, List.length_nil]; omega)
  have hlo : ybp 0 a = false := by simp [ybp]
  rw [hlo] at ca
  have hbl := blen hn hE ha false
  simp only [brT] at hbl ca
  have ee : l ++ (w ++ [40]) ++ ybe false names a ++ bl (ba [41]) = l ++ ybe false names (.un t a) := by
    rw [ydp]
    simp only [ybe, hwE]
    rw [if_neg (by omega), if_neg (by omega)]
    simp
  have e1 : l ++ bl (ba w ++ ba [40]) = l ++ (w ++ [40]) := by rw [bl_app, ydp, ydp]
  have er : k + 1 + a.fl.length = k + (Ex.un t a).fl.length := by simp only [Ex.fl, List.length_cons]; omega
  refine yaz tok Tryz.func67 rfl rfl Tryz.ntmps67 Tryz.results67 rfl (wr_cl rfl) ?_
  show A _ _ _ _ (S _ _)
  (repeat (first | refine zI ?_ | refine zL ?_ | refine zC ?_ | refine yag ?_ | refine yaf ?_ | refine zR ?_ | refine zD ?_ | refine zK ?_ | refine zB ?_ | refine zA ?_ | refine zS ?_ | refine zU ?_ | refine zV ?_ | refine zF ?_ | with_reducible refine yab ?_ | with_reducible refine yad ?_ | refine yaa ?_ | refine yac ?_ | refine yae ?_ | refine zT ?_ | refine zE ?_ | refine zX ?_ | refine yao rfl rfl rfl rfl ?_ | refine zA (h2 := fresh_wr rfl) ?_ | refine ybm tok rfl rfl rfl (by omega) (ycn hk) rfl rfl ?_ | refine yak rfl rfl (xagg_con t.1) rfl rfl ?_))
  rw [hagg]
  (repeat (first | refine zI ?_ | refine zL ?_ | refine zC ?_ | refine zK ?_ | refine zB ?_ | refine zA ?_ | refine zS ?_ | refine zU ?_ | refine zV ?_ | refine zF ?_ | refine zX ?_ | refine yag ?_))
  (repeat (first | with_reducible refine yad ?_ | with_reducible refine yab ?_ | refine yac ?_ | refine yaf ?_ | refine yaa ?_))
  refine zT ?_
  (repeat (first | with_reducible refine yad ?_ | with_reducible refine yab ?_ | refine yac ?_ | refine yaf ?_ | refine yaa ?_))
  refine yck (lf := lfB) mixed (by kernel_rfl) rfl ?_
  (repeat (first | refine zI ?_ | refine zL ?_ | refine zC ?_ | refine zK ?_ | refine zB ?_ | refine zA ?_ | refine zS ?_ | refine zU ?_ | refine zV ?_ | refine zF ?_ | refine zX ?_ | refine yag ?_ | refine yao rfl rfl rfl rfl ?_ | refine yak rfl rfl (aggregateWords_con) rfl rfl ?_ | refine ybm tok rfl rfl rfl (by omega) (yej hw) rfl rfl ?_))
  refine yeq (a := ba w) (b := ba [40]) rfl rfl (by rw [ybb, ybb]; simp; omega) rfl rfl ?_
  refine L_wr (yax u es names l (ba w ++ ba [40]) (by rw [ByteArray.size_append, ybb, ybb]; simp; omega)) rfl rfl rfl rfl (yca rfl rfl) rfl rfl rfl rfl rfl ?_
  rw [e1]
  (repeat (first | refine zI ?_ | refine zL ?_ | refine zC ?_ | refine yag ?_ | refine yaf ?_ | refine zR ?_ | refine zD ?_ | refine zK ?_ | refine zB ?_ | refine zA ?_ | refine zS ?_ | refine zU ?_ | refine zV ?_ | refine zF ?_ | with_reducible refine yab ?_ | with_reducible refine yad ?_ | refine yaa ?_ | refine yac ?_ | refine yae ?_ | refine zT ?_ | refine zE ?_ | refine zX ?_ | refine yao rfl rfl rfl rfl ?_ | refine L_wr (ca) rfl rfl rfl rfl (yca rfl rfl) rfl rfl rfl rfl rfl ?_ | refine L_wr (yax true es names (l ++ (w ++ [40]) ++ ybe false names a) (ba [41]) (by rw [ybb]; simp only [List.length_append, List.length_cons, List.length_nil]; omega)) rfl rfl rfl rfl (yca rfl rfl) rfl rfl rfl rfl rfl ?_))
  rw [ee, er]
  refine yar ?_
  exact ⟨_, rfl, yav _, yap (yca rfl rfl)⟩
theorem write_lf {t : Tm} (hes : es.length ≤ 1000) (hn : ∀ w ∈ names, w.length ≤ 24) (hE : ar t.1 = 0) (ha : argB names.length t = true) : Writes es names (.lf t) := by
  intro k level u l hlev hat hl
  have hk := hat.head rfl
  have hlt : k < es.length := (List.getElem?_eq_some_iff.1 hk).1
  have h7 : yef t.1 = 7 := levO_7 (by unfold ar at hE; (repeat' split at hE) <;> omega)
  have hlo : ybp level (.lf t) = false := by simp [ybp, Ex.op, h7]; omega
  rw [hlo]
  have cp := primary_lf (u := u) (l := l) hk hes hE ha hn (by omega)
  refine yaz tok Tryz.func32 rfl rfl Tryz.ntmps32 Tryz.results32 rfl (wr_cl rfl) ?_
  show A _ _ _ _ (S _ _)
  (repeat (first | refine zI ?_ | refine zL ?_ | refine zC ?_ | refine yag ?_ | refine yaf ?_ | refine zR ?_ | refine zD ?_ | refine zK ?_ | refine zB ?_ | refine zA ?_ | refine zS ?_ | refine zU ?_ | refine zV ?_ | refine zF ?_ | with_reducible refine yab ?_ | with_reducible refine yad ?_ | refine yaa ?_ | refine yac ?_ | refine yae ?_ | refine zT ?_ | refine zE ?_ | refine zX ?_ | refine yao rfl rfl rfl rfl ?_ | refine ybm tok rfl rfl rfl (by omega) (ycn hk) rfl rfl ?_ | refine yak rfl rfl (ydm t.1) rfl rfl ?_))
  rw [h7]
  (repeat (first | refine zI ?_ | refine zL ?_ | refine zC ?_ | refine yag ?_ | refine yaf ?_ | refine zR ?_ | refine zD ?_ | refine zK ?_ | refine zB ?_ | refine zA ?_ | refine zS ?_ | refine zU ?_ | refine zV ?_ | refine zF ?_ | with_reducible refine yab ?_ | with_reducible refine yad ?_ | refine yaa ?_ | refine yac ?_ | refine yae ?_ | refine zT ?_ | refine zE ?_ | refine zX ?_))
  refine yam rfl (fun h9 => absurd h9 (by simp; omega)) (fun _ => ?_)
  (repeat (first | refine zI ?_ | refine zL ?_ | refine zC ?_ | refine yag ?_ | refine yaf ?_ | refine zR ?_ | refine zD ?_ | refine zK ?_ | refine zB ?_ | refine zA ?_ | refine zS ?_ | refine zU ?_ | refine zV ?_ | refine zF ?_ | with_reducible refine yab ?_ | with_reducible refine yad ?_ | refine yaa ?_ | refine yac ?_ | refine yae ?_ | refine zT ?_ | refine zE ?_ | refine zX ?_ | refine L_wr (cp) rfl rfl rfl rfl (yca rfl rfl) rfl rfl rfl rfl rfl ?_))
  refine yar ?_
  exact ⟨_, rfl, yav _, yap (yca rfl rfl)⟩
theorem write_un {t : Tm} {a : Ex} (hes : es.length ≤ 1000) (hn : ∀ w ∈ names, w.length ≤ 24) (ht : ar t.1 = 1) (hE : a.ok) (ha : ∀ x ∈ a.fl, argB names.length x = true) (iha : Writes es names a) : Writes es names (.un t a) := by
  intro k level u l hlev hat hl
  have hk := hat.head rfl
  have hbd := hat.bound
  have hlt : k < es.length := (List.getElem?_eq_some_iff.1 hk).1
  have hata : AtE es (k + 1) a := (AtE.tail (y := []) (by have h : (t :: a.fl) <+: es.drop k := hat; simpa using h)).1
  have hop := ar_un ht
  have er : k + 1 + a.fl.length = k + (Ex.un t a).fl.length := by simp only [Ex.fl, List.length_cons]; omega
  by_cases hagg : 20 ≤ t.1
  · have h7 : yef t.1 = 7 := levO_7 (.inr ⟨hagg, hop.2⟩)
    have hlo : ybp level (.un t a) = false := by simp [ybp, Ex.op, h7]; omega
    rw [hlo]
    have cp := primary_agg (u := u) (l := l) ⟨hagg, hop.2⟩ hes hn hE ha hat iha hl
    refine yaz tok Tryz.func32 rfl rfl Tryz.ntmps32 Tryz.results32 rfl (wr_cl rfl) ?_
    show A _ _ _ _ (S _ _)
    (repeat (first | refine zI ?_ | refine zL ?_ | refine zC ?_ | refine yag ?_ | refine yaf ?_ | refine zR ?_ | refine zD ?_ | refine zK ?_ | refine zB ?_ | refine zA ?_ | refine zS ?_ | refine zU ?_ | refine zV ?_ | refine zF ?_ | with_reducible refine yab ?_ | with_reducible refine yad ?_ | refine yaa ?_ | refine yac ?_ | refine yae ?_ | refine zT ?_ | refine zE ?_ | refine zX ?_ | refine yao rfl rfl rfl rfl ?_ | refine ybm tok rfl rfl rfl (by omega) (ycn hk) rfl rfl ?_ | refine yak rfl rfl (ydm t.1) rfl rfl ?_))
    rw [h7]
    (repeat (first | refine zI ?_ | refine zL ?_ | refine zC ?_ | refine yag ?_ | refine yaf ?_ | refine zR ?_ | refine zD ?_ | refine zK ?_ | refine zB ?_ | refine zA ?_ | refine zS ?_ | refine zU ?_ | refine zV ?_ | refine zF ?_ | with_reducible refine yab ?_ | with_reducible refine yad ?_ | refine yaa ?_ | refine yac ?_ | refine yae ?_ | refine zT ?_ | refine zE ?_ | refine zX ?_))
    refine yam rfl (fun h9 => absurd h9 (by simp; omega)) (fun _ => ?_)
    (repeat (first | refine zI ?_ | refine zL ?_ | refine zC ?_ | refine yag ?_ | refine yaf ?_ | refine zR ?_ | refine zD ?_ | refine zK ?_ | refine zB ?_ | refine zA ?_ | refine zS ?_ | refine zU ?_ | refine zV ?_ | refine zF ?_ | with_reducible refine yab ?_ | with_reducible refine yad ?_ | refine yaa ?_ | refine yac ?_ | refine yae ?_ | refine zT ?_ | refine zE ?_ | refine zX ?_ | refine L_wr (cp) rfl rfl rfl rfl (yca rfl rfl) rfl rfl rfl rfl rfl ?_))
    refine yar ?_
    exact ⟨_, rfl, yav _, yap (yca rfl rfl)⟩
  simp only [Ex.fl, List.length_cons] at hl hbd
  have h6 : yef t.1 = 6 := lev_un (by omega)
  have hlo : ybp level (.un t a) = false := by simp [ybp, Ex.op, h6]; omega
  rw [hlo]
  by_cases h18 : t.1 = 18
  · have ca := iha (k + 1) 6 true (l ++ bl (ba [45])) (by omega) hata (by rw [ydp]; simp only [List.length_append, List.length_cons, List.length_nil]; omega)
    have ee : l ++ bl (ba [45]) ++ brT (ybp 6 a) (ybe false names a) = l ++ brT false (ybe false names (.un t a)) := by rw [ydp]; simp [ybe, h18, brT]
    refine yaz tok Tryz.func32 rfl rfl Tryz.ntmps32 Tryz.results32 rfl (wr_cl rfl) ?_
    show A _ _ _ _ (S _ _)
    (repeat (first | refine zI ?_ | refine zL ?_ | refine zC ?_ | refine yag ?_ | refine yaf ?_ | refine zR ?_ | refine zD ?_ | refine zK ?_ | refine zB ?_ | refine zA ?_ | refine zS ?_ | refine zU ?_ | refine zV ?_ | refine zF ?_ | with_reducible refine yab ?_ | with_reducible refine yad ?_ | refine yaa ?_ | refine yac ?_ | refine yae ?_ | refine zT ?_ | refine zE ?_ | refine zX ?_ | refine yao rfl rfl rfl rfl ?_ | refine ybm tok rfl rfl rfl (by omega) (ycn hk) rfl rfl ?_ | refine yak rfl rfl (ydm t.1) rfl rfl ?_))
    rw [h6]
    (repeat (first | refine zI ?_ | refine zL ?_ | refine zC ?_ | refine yag ?_ | refine yaf ?_ | refine zR ?_ | refine zD ?_ | refine zK ?_ | refine zB ?_ | refine zA ?_ | refine zS ?_ | refine zU ?_ | refine zV ?_ | refine zF ?_ | with_reducible refine yab ?_ | with_reducible refine yad ?_ | refine yaa ?_ | refine yac ?_ | refine yae ?_ | refine zT ?_ | refine zE ?_ | refine zX ?_))
    refine yam rfl (fun h9 => absurd h9 (by simp; omega)) (fun _ => ?_)
    (repeat (first | refine zI ?_ | refine zL ?_ | refine zC ?_ | refine yag ?_ | refine yaf ?_ | refine zR ?_ | refine zD ?_ | refine zK ?_ | refine zB ?_ | refine zA ?_ | refine zS ?_ | refine zU ?_ | refine zV ?_ | refine zF ?_ | with_reducible refine yab ?_ | with_reducible refine yad ?_ | refine yaa ?_ | refine yac ?_ | refine yae ?_ | refine zT ?_ | refine zE ?_ | refine zX ?_))
    refine yam rfl (fun _ => ?_) (fun h9 => absurd h9 (by simp [h18]))
    (repeat (first | refine zI ?_ | refine zL ?_ | refine zC ?_ | refine yag ?_ | refine yaf ?_ | refine zR ?_ | refine zD ?_ | refine zK ?_ | refine zB ?_ | refine zA ?_ | refine zS ?_ | refine zU ?_ | refine zV ?_ | refine zF ?_ | with_reducible refine yab ?_ | with_reducible refine yad ?_ | refine yaa ?_ | refine yac ?_ | refine yae ?_ | refine zT ?_ | refine zE ?_ | refine zX ?_ | refine yao rfl rfl rfl rfl ?_ | refine L_wr (yax u es names l (ba [45]) (by rw [ybb]; simp; omega)) rfl rfl rfl rfl (yca rfl rfl) rfl rfl rfl rfl rfl ?_ | refine L_wr (ca) rfl rfl rfl rfl (yca rfl rfl) rfl rfl rfl rfl rfl ?_))
    rw [ee, er]
    refine yar ?_
    exact ⟨_, rfl, yav _, yap (yca rfl rfl)⟩
  · have h19 : t.1 = 19 := by omega
    have ca := iha (k + 1) 6 true (l ++ bl (ba [33])) (by omega) hata (by rw [ydp]; simp only [List.length_append, List.length_cons, List.length_nil]; omega)
    have ee : l ++ bl (ba [33]) ++ brT (ybp 6 a) (ybe false names a) = l ++ brT false (ybe false names (.un t a)) := by rw [ydp]; simp [ybe, h19, brT]
    refine yaz tok Tryz.func32 rfl rfl Tryz.ntmps32 Tryz.results32 rfl (wr_cl rfl) ?_
    show A _ _ _ _ (S _ _)
    (repeat (first | refine zI ?_ | refine zL ?_ | refine zC ?_ | refine yag ?_ | refine yaf ?_ | refine zR ?_ | refine zD ?_ | refine zK ?_ | refine zB ?_ | refine zA ?_ | refine zS ?_ | refine zU ?_ | refine zV ?_ | refine zF ?_ | with_reducible refine yab ?_ | with_reducible refine yad ?_ | refine yaa ?_ | refine yac ?_ | refine yae ?_ | refine zT ?_ | refine zE ?_ | refine zX ?_ | refine yao rfl rfl rfl rfl ?_ | refine ybm tok rfl rfl rfl (by omega) (ycn hk) rfl rfl ?_ | refine yak rfl rfl (ydm t.1) rfl rfl ?_))
    rw [h6]
    (repeat (first | refine zI ?_ | refine zL ?_ | refine zC ?_ | refine yag ?_ | refine yaf ?_ | refine zR ?_ | refine zD ?_ | refine zK ?_ | refine zB ?_ | refine zA ?_ | refine zS ?_ | refine zU ?_ | refine zV ?_ | refine zF ?_ | with_reducible refine yab ?_ | with_reducible refine yad ?_ | refine yaa ?_ | refine yac ?_ | refine yae ?_ | refine zT ?_ | refine zE ?_ | refine zX ?_))
    refine yam rfl (fun h9 => absurd h9 (by simp; omega)) (fun _ => ?_)
    (repeat (first | refine zI ?_ | refine zL ?_ | refine zC ?_ | refine yag ?_ | refine yaf ?_ | refine zR ?_ | refine zD ?_ | refine zK ?_ | refine zB ?_ | refine zA ?_ | refine zS ?_ | refine zU ?_ | refine zV ?_ | refine zF ?_ | with_reducible refine yab ?_ | with_reducible refine yad ?_ | refine yaa ?_ | refine yac ?_ | refine yae ?_ | refine zT ?_ | refine zE ?_ | refine zX ?_))
    refine yam rfl (fun h9 => absurd h9 (by simp [h19])) (fun _ => ?_)
    (repeat (first | refine zI ?_ | refine zL ?_ | refine zC ?_ | refine yag ?_ | refine yaf ?_ | refine zR ?_ | refine zD ?_ | refine zK ?_ | refine zB ?_ | refine zA ?_ | refine zS ?_ | refine zU ?_ | refine zV ?_ | refine zF ?_ | with_reducible refine yab ?_ | with_reducible refine yad ?_ | refine yaa ?_ | refine yac ?_ | refine yae ?_ | refine zT ?_ | refine zE ?_ | refine zX ?_ | refine yao rfl rfl rfl rfl ?_ | refine L_wr (yax u es names l (ba [33]) (by rw [ybb]; simp; omega)) rfl rfl rfl rfl (yca rfl rfl) rfl rfl rfl rfl rfl ?_ | refine L_wr (ca) rfl rfl rfl rfl (yca rfl rfl) rfl rfl rfl rfl rfl ?_))
    rw [ee, er]
    refine yar ?_
    exact ⟨_, rfl, yav _, yap (yca rfl rfl)⟩
theorem low_none {t : List (Nat × AV)} {x : Nat} (h : allLt 1000000 t = true) (hx : 1000000 ≤ x) : ybk t x = none := by
  cases hq : ybk t x with
  | none => rfl
  | some y => have := allLt_spec h x y hq; omega
theorem write_bi {t : Tm} {a b : Ex} (hes : es.length ≤ 1000) (hn : ∀ w ∈ names, w.length ≤ 24) (ht : ar t.1 = 2) (hEa : a.ok) (hEb : b.ok) (hab0 : ∀ x ∈ (Ex.bi t a b).fl, argB names.length x = true) (iha : Writes es names a) (ihb : Writes es names b) : Writes es names (.bi t a b) := by
  intro k level u l hlev hat hl
  have haa : ∀ x ∈ a.fl, argB names.length x = true := fun x hx => hab0 x (by simp [Ex.fl, hx])
  have hab : ∀ x ∈ b.fl, argB names.length x = true := fun x hx => hab0 x (by simp [Ex.fl, hx])
  have hk := hat.head rfl
  have hbd := hat.bound
  have hlt : k < es.length := (List.getElem?_eq_some_iff.1 hk).1
  obtain ⟨hata, hatb⟩ := AtE.tail (show (t :: (a.fl ++ b.fl)) <+: es.drop k from hat)
  have hop := ar_bi ht
  have hv := lev_bi hop
  have er : k + 1 + a.fl.length + b.fl.length = k + (Ex.bi t a b).fl.length := by simp only [Ex.fl, List.length_cons, List.length_append]; omega
  have hll : l.length + 40 * (Ex.bi t a b).fl.length ≤ 900000 := hl
  simp only [Ex.fl, List.length_cons, List.length_append] at hl hbd hll
  obtain ⟨w, hw⟩ := getN' (l := binL) (k := (t.1 - 30).toNat) (by show _ < 13; omega)
  have hwl := bin_len w (List.mem_of_getElem? hw)
  have hwE : binW t.1 = w := by rw [binW, hw]; rfl
  have hbla : ∀ c, (brT c (ybe false names a)).length ≤ 34 * a.fl.length := blen hn hEa haa
  by_cases hlo : yef t.1 < level
  · have hlo2 : ybp level (.bi t a b) = true := decide_eq_true hlo
    rw [hlo2]
    by_cases h3 : yef t.1 = 3
    · have ca := iha (k + 1) 4 true (l ++ bl (ba [40])) (by omega) hata (by rw [ydp]; simp only [List.length_append, List.length_cons, List.length_nil]; omega)
      have cb := ihb (k + 1 + a.fl.length) (3 + 1) true ((l ++ bl (ba [40])) ++ brT (ybp 4 a) (ybe false names a) ++ bl (ba [32] ++ ba w ++ ba [32])) (by omega) hatb (by simp only [bl_app, ydp]; have := hbla (ybp 4 a); simp only [List.length_append, List.length_cons, List.length_nil]; omega)
      have ee : (l ++ bl (ba [40])) ++ brT (ybp 4 a) (ybe false names a) ++ bl (ba [32] ++ ba w ++ ba [32]) ++ brT (ybp (3 + 1) b) (ybe false names b) = (l ++ bl (ba [40])) ++ ybe false names (.bi t a b) := by
        simp only [bl_app, ydp]
        simp only [ybe, Bool.false_or, leftL, h3, if_true, hwE]
        simp
      have hblb := blen hn hEb hab false
      have hbl2 := ydq hn false (.bi t a b) ⟨ht, hEa, hEb⟩ hab0
      refine conM_ofD tok Tryz.func32 rfl rfl Tryz.ntmps32 Tryz.results32 rfl (wr_cl rfl) ?_
      show AF _ _ _ _ (S _ _)
      refine yfl (yfa ?_)
      refine yah (lf := lfT) rfl ?_
      (repeat (first | refine zI ?_ | refine zL ?_ | refine zC ?_ | refine zK ?_ | refine zB ?_ | refine zA ?_ | refine zS ?_ | refine zU ?_ | refine zV ?_ | refine zF ?_ | refine zX ?_ | refine yag ?_))
      show AF _ _ _ _ (S _ _)
      refine yfl (yfa ?_)
      refine yah (lf := lfT) rfl ?_
      (repeat (first | refine zI ?_ | refine zL ?_ | refine zC ?_ | refine zK ?_ | refine zB ?_ | refine zA ?_ | refine zS ?_ | refine zU ?_ | refine zV ?_ | refine zF ?_ | refine zX ?_ | refine yag ?_ | refine yao rfl rfl rfl rfl ?_ | refine ybm tok rfl rfl rfl (by omega) (ycn hk) rfl rfl ?_))
      show AF _ _ _ _ (S _ _)
      refine yfl (yfa ?_)
      refine yah (lf := lfT) rfl ?_
      (repeat (first | refine zI ?_ | refine zL ?_ | refine zC ?_ | refine zK ?_ | refine zB ?_ | refine zA ?_ | refine zS ?_ | refine zU ?_ | refine zV ?_ | refine zF ?_ | refine zX ?_ | refine yag ?_ | refine yak rfl rfl (ydm t.1) rfl rfl ?_))
      rw [h3]
      show AF _ _ _ _ (S _ _)
      refine yfl ?_
      refine yfl (yfa ?_)
      refine yah (lf := lfT) rfl ?_
      (repeat (first | refine zI ?_ | refine zL ?_ | refine zC ?_ | refine zK ?_ | refine zB ?_ | refine zA ?_ | refine zS ?_ | refine zU ?_ | refine zV ?_ | refine zF ?_ | refine zX ?_ | refine yag ?_))
      show AF _ _ _ _ (S _ _)
      refine AF_cond rfl (fun _ => ?_) (fun h9 => absurd h9 (by simp; omega))
      refine yfl (yfa ?_)
      refine yah (lf := lfT) rfl ?_
      (repeat (first | refine zI ?_ | refine zL ?_ | refine zC ?_ | refine zK ?_ | refine zB ?_ | refine zA ?_ | refine zS ?_ | refine zU ?_ | refine zV ?_ | refine zF ?_ | refine zX ?_ | refine yag ?_ | refine yao rfl rfl rfl rfl ?_ | refine L_wr (yax u es names l (ba [40]) (by rw [ybb]; simp; omega)) rfl rfl rfl rfl (yca rfl rfl) rfl rfl rfl rfl rfl ?_))
      show AF _ _ _ _ (S _ _)
      refine AF_region_defer (lf := lfT) 3 rfl rfl rfl rfl rfl rfl (fun d h => by cases h) ?_
      (repeat (first | refine zI ?_ | refine zL ?_ | refine zC ?_ | refine zK ?_ | refine zB ?_ | refine zA ?_ | refine zS ?_ | refine zU ?_ | refine zV ?_ | refine zF ?_ | refine zX ?_ | refine yag ?_ | refine yao rfl rfl rfl rfl ?_))
      refine ⟨rfl, _, _, _, ⟨_, Tryz.func66, rfl, rfl⟩, rfl, rfl, fun x hx => low_none rfl hx, ?_⟩
      show Lex _ _ _ _ _ [] _
      refine .nil ?_
      show A _ _ _ _ _
      refine A_weak (s' := S [(0, .lp 1001 0), (1, i64 k), (7, i64 t.1), (8, i64 (3 : Nat)), (1000000, .lp 1001 0), (1000001, yey (ba [41]))] (wrH true es names (l ++ bl (ba [40])))) ?_ ⟨subF_look ⟨rfl, rfl, rfl, rfl, rfl, rfl, trivial⟩, fun id x h => h⟩
      (repeat (first | refine zI ?_ | refine zL ?_ | refine zC ?_ | refine yag ?_ | refine yaf ?_ | refine zR ?_ | refine zD ?_ | refine zK ?_ | refine zB ?_ | refine zA ?_ | refine zS ?_ | refine zU ?_ | refine zV ?_ | refine zF ?_ | with_reducible refine yab ?_ | with_reducible refine yad ?_ | refine yaa ?_ | refine yac ?_ | refine yae ?_ | refine zT ?_ | refine zE ?_ | refine zX ?_))
      (repeat (first | refine zI ?_ | refine zL ?_ | refine zC ?_ | refine yag ?_ | refine yaf ?_ | refine zR ?_ | refine zK ?_ | refine zB ?_ | refine zA ?_ | refine zS ?_ | refine zU ?_ | refine zV ?_ | refine zF ?_ | with_reducible refine yab ?_ | with_reducible refine yad ?_ | refine yaa ?_ | refine yac ?_ | refine yae ?_ | refine zT ?_ | refine zE ?_ | refine zX ?_ | refine yao rfl rfl rfl rfl ?_ | refine L_wr (ca) rfl rfl rfl rfl (yca rfl rfl) rfl rfl rfl rfl rfl ?_))
      (repeat (first | with_reducible refine yad ?_ | with_reducible refine yab ?_ | refine yac ?_ | refine yaf ?_ | refine yaa ?_))
      refine yck (lf := lfB) mixed (by kernel_rfl) rfl ?_
      (repeat (first | refine zI ?_ | refine zL ?_ | refine zC ?_ | refine zK ?_ | refine zB ?_ | refine zA ?_ | refine zS ?_ | refine zU ?_ | refine zV ?_ | refine zF ?_ | refine zX ?_ | refine yag ?_ | refine yao rfl rfl rfl rfl ?_ | refine yak rfl rfl (binarySigns_con) rfl rfl ?_ | refine ybm tok rfl rfl rfl (by omega) (yej hw) rfl rfl ?_))
      refine yeq (a := ba [32]) (b := ba w) rfl rfl (by rw [ybb, ybb]; simp; omega) rfl rfl ?_
      refine yeq (a := ba [32] ++ ba w) (b := ba [32]) rfl rfl (by rw [ByteArray.size_append, ybb, ybb]; simp; omega) rfl rfl ?_
      refine L_wr (yax true es names _ (ba [32] ++ ba w ++ ba [32]) (by rw [ByteArray.size_append, ByteArray.size_append, ybb, ybb]; have := hbla (ybp 4 a); rw [ydp]; simp only [List.length_append, List.length_cons, List.length_nil]; omega)) rfl rfl rfl rfl (yca rfl rfl) rfl rfl rfl rfl rfl ?_
      (repeat (first | refine zI ?_ | refine zL ?_ | refine zC ?_ | refine yag ?_ | refine yaf ?_ | refine zR ?_ | refine zD ?_ | refine zK ?_ | refine zB ?_ | refine zA ?_ | refine zS ?_ | refine zU ?_ | refine zV ?_ | refine zF ?_ | with_reducible refine yab ?_ | with_reducible refine yad ?_ | refine yaa ?_ | refine yac ?_ | refine yae ?_ | refine zT ?_ | refine zE ?_ | refine zX ?_ | refine yao rfl rfl rfl rfl ?_ | refine L_wr (cb) rfl rfl rfl rfl (yca rfl rfl) rfl rfl rfl rfl rfl ?_))
      rw [ee, er]
      refine yar ?_
      refine ends_defer (h' := []) (args0 := [.lp 1001 0, yey (ba [41])]) (hm := wrH true es names (l ++ bl (ba [40]) ++ ybe false names (Ex.bi t a b))) (hm' := wrH true es names (l ++ bl (ba [40]) ++ ybe false names (Ex.bi t a b) ++ bl (ba [41]))) [(1001, 1001), (1003, 1003)] rfl rfl rfl ⟨rfl, rfl, trivial⟩ (w_writeString_K true es names _ (ba [41]) (by rw [ybb, ydp]; simp only [List.length_append, List.length_cons, List.length_nil]; omega)) rfl rfl rfl rfl (by rw [renO_wr]; exact yca rfl rfl) rfl (fun j ob hj hob => by cases hob) rfl (yav _) (fun id o ho => ?_)
      rw [show l ++ brT true (ybe false names (Ex.bi t a b)) = l ++ bl (ba [40]) ++ ybe false names (Ex.bi t a b) ++ bl (ba [41]) by rw [ydp, ydp]; simp [brT]] at ho
      exact ho
    · have ca := iha (k + 1) (yef t.1) true (l ++ bl (ba [40])) (by omega) hata (by rw [ydp]; simp only [List.length_append, List.length_cons, List.length_nil]; omega)
      have cb := ihb (k + 1 + a.fl.length) ((yef t.1) + 1) true ((l ++ bl (ba [40])) ++ brT (ybp (yef t.1) a) (ybe false names a) ++ bl (ba [32] ++ ba w ++ ba [32])) (by omega) hatb (by simp only [bl_app, ydp]; have := hbla (ybp (yef t.1) a); simp only [List.length_append, List.length_cons, List.length_nil]; omega)
      have ee : (l ++ bl (ba [40])) ++ brT (ybp (yef t.1) a) (ybe false names a) ++ bl (ba [32] ++ ba w ++ ba [32]) ++ brT (ybp ((yef t.1) + 1) b) (ybe false names b) = (l ++ bl (ba [40])) ++ ybe false names (.bi t a b) := by
        simp only [bl_app, ydp]
        simp only [ybe, Bool.false_or, leftL, h3, if_false, hwE]
        simp
      have hblb := blen hn hEb hab false
      have hbl2 := ydq hn false (.bi t a b) ⟨ht, hEa, hEb⟩ hab0
      refine conM_ofD tok Tryz.func32 rfl rfl Tryz.ntmps32 Tryz.results32 rfl (wr_cl rfl) ?_
      show AF _ _ _ _ (S _ _)
      refine yfl (yfa ?_)
      refine yah (lf := lfT) rfl ?_
      (repeat (first | refine zI ?_ | refine zL ?_ | refine zC ?_ | refine zK ?_ | refine zB ?_ | refine zA ?_ | refine zS ?_ | refine zU ?_ | refine zV ?_ | refine zF ?_ | refine zX ?_ | refine yag ?_))
      show AF _ _ _ _ (S _ _)
      refine yfl (yfa ?_)
      refine yah (lf := lfT) rfl ?_
      (repeat (first | refine zI ?_ | refine zL ?_ | refine zC ?_ | refine zK ?_ | refine zB ?_ | refine zA ?_ | refine zS ?_ | refine zU ?_ | refine zV ?_ | refine zF ?_ | refine zX ?_ | refine yag ?_ | refine yao rfl rfl rfl rfl ?_ | refine ybm tok rfl rfl rfl (by omega) (ycn hk) rfl rfl ?_))
      show AF _ _ _ _ (S _ _)
      refine yfl (yfa ?_)
      refine yah (lf := lfT) rfl ?_
      (repeat (first | refine zI ?_ | refine zL ?_ | refine zC ?_ | refine zK ?_ | refine zB ?_ | refine zA ?_ | refine zS ?_ | refine zU ?_ | refine zV ?_ | refine zF ?_ | refine zX ?_ | refine yag ?_ | refine yak rfl rfl (ydm t.1) rfl rfl ?_))
      skip
      show AF _ _ _ _ (S _ _)
      refine yfl ?_
      refine yfl (yfa ?_)
      refine yah (lf := lfT) rfl ?_
      (repeat (first | refine zI ?_ | refine zL ?_ | refine zC ?_ | refine zK ?_ | refine zB ?_ | refine zA ?_ | refine zS ?_ | refine zU ?_ | refine zV ?_ | refine zF ?_ | refine zX ?_ | refine yag ?_))
      show AF _ _ _ _ (S _ _)
      refine AF_cond rfl (fun _ => ?_) (fun h9 => absurd h9 (by simp; omega))
      refine yfl (yfa ?_)
      refine yah (lf := lfT) rfl ?_
      (repeat (first | refine zI ?_ | refine zL ?_ | refine zC ?_ | refine zK ?_ | refine zB ?_ | refine zA ?_ | refine zS ?_ | refine zU ?_ | refine zV ?_ | refine zF ?_ | refine zX ?_ | refine yag ?_ | refine yao rfl rfl rfl rfl ?_ | refine L_wr (yax u es names l (ba [40]) (by rw [ybb]; simp; omega)) rfl rfl rfl rfl (yca rfl rfl) rfl rfl rfl rfl rfl ?_))
      show AF _ _ _ _ (S _ _)
      refine AF_region_defer (lf := lfT) 3 rfl rfl rfl rfl rfl rfl (fun d h => by cases h) ?_
      (repeat (first | refine zI ?_ | refine zL ?_ | refine zC ?_ | refine zK ?_ | refine zB ?_ | refine zA ?_ | refine zS ?_ | refine zU ?_ | refine zV ?_ | refine zF ?_ | refine zX ?_ | refine yag ?_ | refine yao rfl rfl rfl rfl ?_))
      refine ⟨rfl, _, _, _, ⟨_, Tryz.func66, rfl, rfl⟩, rfl, rfl, fun x hx => low_none rfl hx, ?_⟩
      show Lex _ _ _ _ _ [] _
      refine .nil ?_
      show A _ _ _ _ _
      refine A_weak (s' := S [(0, .lp 1001 0), (1, i64 k), (7, i64 t.1), (8, i64 (yef t.1 : Nat)), (1000000, .lp 1001 0), (1000001, yey (ba [41]))] (wrH true es names (l ++ bl (ba [40])))) ?_ ⟨subF_look ⟨rfl, rfl, rfl, rfl, rfl, rfl, trivial⟩, fun id x h => h⟩
      (repeat (first | refine zI ?_ | refine zL ?_ | refine zC ?_ | refine yag ?_ | refine yaf ?_ | refine zR ?_ | refine zD ?_ | refine zK ?_ | refine zB ?_ | refine zA ?_ | refine zS ?_ | refine zU ?_ | refine zV ?_ | refine zF ?_ | with_reducible refine yab ?_ | with_reducible refine yad ?_ | refine yaa ?_ | refine yac ?_ | refine yae ?_ | refine zT ?_ | refine zE ?_ | refine zX ?_))
      refine yam rfl (fun h9 => absurd h9 (by simp; omega)) (fun _ => ?_)
      (repeat (first | refine zI ?_ | refine zL ?_ | refine zC ?_ | refine yag ?_ | refine yaf ?_ | refine zR ?_ | refine zD ?_ | refine zK ?_ | refine zB ?_ | refine zA ?_ | refine zS ?_ | refine zU ?_ | refine zV ?_ | refine zF ?_ | with_reducible refine yab ?_ | with_reducible refine yad ?_ | refine yaa ?_ | refine yac ?_ | refine yae ?_ | refine zT ?_ | refine zE ?_ | refine zX ?_))
      refine yam rfl (fun h9 => absurd h9 (by simp; omega)) (fun _ => ?_)
      (repeat (first | refine zI ?_ | refine zL ?_ | refine zC ?_ | refine yag ?_ | refine yaf ?_ | refine zR ?_ | refine zD ?_ | refine zK ?_ | refine zB ?_ | refine zA ?_ | refine zS ?_ | refine zU ?_ | refine zV ?_ | refine zF ?_ | with_reducible refine yab ?_ | with_reducible refine yad ?_ | refine yaa ?_ | refine yac ?_ | refine yae ?_ | refine zT ?_ | refine zE ?_ | refine zX ?_))
      refine yam rfl (fun h9 => absurd h9 (by simp; omega)) (fun _ => ?_)
      (repeat (first | refine zI ?_ | refine zL ?_ | refine zC ?_ | refine yag ?_ | refine yaf ?_ | refine zR ?_ | refine zD ?_ | refine zK ?_ | refine zB ?_ | refine zA ?_ | refine zS ?_ | refine zU ?_ | refine zV ?_ | refine zF ?_ | with_reducible refine yab ?_ | with_reducible refine yad ?_ | refine yaa ?_ | refine yac ?_ | refine yae ?_ | refine zT ?_ | refine zE ?_ | refine zX ?_))
      refine yam rfl (fun h9 => absurd h9 (by simp; omega)) (fun _ => ?_)
      (repeat (first | refine zI ?_ | refine zL ?_ | refine zC ?_ | refine yag ?_ | refine yaf ?_ | refine zR ?_ | refine zK ?_ | refine zB ?_ | refine zA ?_ | refine zS ?_ | refine zU ?_ | refine zV ?_ | refine zF ?_ | with_reducible refine yab ?_ | with_reducible refine yad ?_ | refine yaa ?_ | refine yac ?_ | refine yae ?_ | refine zT ?_ | refine zE ?_ | refine zX ?_ | refine yao rfl rfl rfl rfl ?_ | refine L_wr (ca) rfl rfl rfl rfl (yca rfl rfl) rfl rfl rfl rfl rfl ?_))
      (repeat (first | with_reducible refine yad ?_ | with_reducible refine yab ?_ | refine yac ?_ | refine yaf ?_ | refine yaa ?_))
      refine yck (lf := lfB) mixed (by kernel_rfl) rfl ?_
      (repeat (first | refine zI ?_ | refine zL ?_ | refine zC ?_ | refine zK ?_ | refine zB ?_ | refine zA ?_ | refine zS ?_ | refine zU ?_ | refine zV ?_ | refine zF ?_ | refine zX ?_ | refine yag ?_ | refine yao rfl rfl rfl rfl ?_ | refine yak rfl rfl (binarySigns_con) rfl rfl ?_ | refine ybm tok rfl rfl rfl (by omega) (yej hw) rfl rfl ?_))
      refine yeq (a := ba [32]) (b := ba w) rfl rfl (by rw [ybb, ybb]; simp; omega) rfl rfl ?_
      refine yeq (a := ba [32] ++ ba w) (b := ba [32]) rfl rfl (by rw [ByteArray.size_append, ybb, ybb]; simp; omega) rfl rfl ?_
      refine L_wr (yax true es names _ (ba [32] ++ ba w ++ ba [32]) (by rw [ByteArray.size_append, ByteArray.size_append, ybb, ybb]; have := hbla (ybp (yef t.1) a); rw [ydp]; simp only [List.length_append, List.length_cons, List.length_nil]; omega)) rfl rfl rfl rfl (yca rfl rfl) rfl rfl rfl rfl rfl ?_
      (repeat (first | refine zI ?_ | refine zL ?_ | refine zC ?_ | refine yag ?_ | refine yaf ?_ | refine zR ?_ | refine zD ?_ | refine zK ?_ | refine zB ?_ | refine zA ?_ | refine zS ?_ | refine zU ?_ | refine zV ?_ | refine zF ?_ | with_reducible refine yab ?_ | with_reducible refine yad ?_ | refine yaa ?_ | refine yac ?_ | refine yae ?_ | refine zT ?_ | refine zE ?_ | refine zX ?_ | refine yao rfl rfl rfl rfl ?_ | refine L_wr (cb) rfl rfl rfl rfl (yca rfl rfl) rfl rfl rfl rfl rfl ?_))
      rw [ee, er]
      refine yar ?_
      refine ends_defer (h' := []) (args0 := [.lp 1001 0, yey (ba [41])]) (hm := wrH true es names (l ++ bl (ba [40]) ++ ybe false names (Ex.bi t a b))) (hm' := wrH true es names (l ++ bl (ba [40]) ++ ybe false names (Ex.bi t a b) ++ bl (ba [41]))) [(1001, 1001), (1003, 1003)] rfl rfl rfl ⟨rfl, rfl, trivial⟩ (w_writeString_K true es names _ (ba [41]) (by rw [ybb, ydp]; simp only [List.length_append, List.length_cons, List.length_nil]; omega)) rfl rfl rfl rfl (by rw [renO_wr]; exact yca rfl rfl) rfl (fun j ob hj hob => by cases hob) rfl (yav _) (fun id o ho => ?_)
      rw [show l ++ brT true (ybe false names (Ex.bi t a b)) = l ++ bl (ba [40]) ++ ybe false names (Ex.bi t a b) ++ bl (ba [41]) by rw [ydp, ydp]; simp [brT]] at ho
      exact ho
  · have hlo2 : ybp level (.bi t a b) = false := decide_eq_false hlo
    rw [hlo2]
    by_cases h3 : yef t.1 = 3
    · have ca := iha (k + 1) 4 u l (by omega) hata (by omega)
      have cb := ihb (k + 1 + a.fl.length) (3 + 1) true (l ++ brT (ybp 4 a) (ybe false names a) ++ bl (ba [32] ++ ba w ++ ba [32])) (by omega) hatb (by simp only [bl_app, ydp]; have := hbla (ybp 4 a); simp only [List.length_append, List.length_cons, List.length_nil]; omega)
      have ee : l ++ brT (ybp 4 a) (ybe false names a) ++ bl (ba [32] ++ ba w ++ ba [32]) ++ brT (ybp (3 + 1) b) (ybe false names b) = l ++ ybe false names (.bi t a b) := by
        simp only [bl_app, ydp]
        simp only [ybe, Bool.false_or, leftL, h3, if_true, hwE]
        simp
      have hblb := blen hn hEb hab false
      have hbl2 := ydq hn false (.bi t a b) ⟨ht, hEa, hEb⟩ hab0
      refine yaz tok Tryz.func32 rfl rfl Tryz.ntmps32 Tryz.results32 rfl (wr_cl rfl) ?_
      show A _ _ _ _ (S _ _)
      (repeat (first | refine zI ?_ | refine zL ?_ | refine zC ?_ | refine yag ?_ | refine yaf ?_ | refine zR ?_ | refine zD ?_ | refine zK ?_ | refine zB ?_ | refine zA ?_ | refine zS ?_ | refine zU ?_ | refine zV ?_ | refine zF ?_ | with_reducible refine yab ?_ | with_reducible refine yad ?_ | refine yaa ?_ | refine yac ?_ | refine yae ?_ | refine zT ?_ | refine zE ?_ | refine zX ?_ | refine yao rfl rfl rfl rfl ?_ | refine ybm tok rfl rfl rfl (by omega) (ycn hk) rfl rfl ?_ | refine yak rfl rfl (ydm t.1) rfl rfl ?_))
      rw [h3]
      (repeat (first | refine zI ?_ | refine zL ?_ | refine zC ?_ | refine yag ?_ | refine yaf ?_ | refine zR ?_ | refine zD ?_ | refine zK ?_ | refine zB ?_ | refine zA ?_ | refine zS ?_ | refine zU ?_ | refine zV ?_ | refine zF ?_ | with_reducible refine yab ?_ | with_reducible refine yad ?_ | refine yaa ?_ | refine yac ?_ | refine yae ?_ | refine zT ?_ | refine zE ?_ | refine zX ?_))
      refine yam rfl (fun h9 => absurd h9 (by simp; omega)) (fun _ => ?_)
      (repeat (first | refine zI ?_ | refine zL ?_ | refine zC ?_ | refine yag ?_ | refine yaf ?_ | refine zR ?_ | refine zD ?_ | refine zK ?_ | refine zB ?_ | refine zA ?_ | refine zS ?_ | refine zU ?_ | refine zV ?_ | refine zF ?_ | with_reducible refine yab ?_ | with_reducible refine yad ?_ | refine yaa ?_ | refine yac ?_ | refine yae ?_ | refine zT ?_ | refine zE ?_ | refine zX ?_))
      (repeat (first | refine zI ?_ | refine zL ?_ | refine zC ?_ | refine yag ?_ | refine yaf ?_ | refine zR ?_ | refine zK ?_ | refine zB ?_ | refine zA ?_ | refine zS ?_ | refine zU ?_ | refine zV ?_ | refine zF ?_ | with_reducible refine yab ?_ | with_reducible refine yad ?_ | refine yaa ?_ | refine yac ?_ | refine yae ?_ | refine zT ?_ | refine zE ?_ | refine zX ?_ | refine yao rfl rfl rfl rfl ?_ | refine L_wr (ca) rfl rfl rfl rfl (yca rfl rfl) rfl rfl rfl rfl rfl ?_))
      (repeat (first | with_reducible refine yad ?_ | with_reducible refine yab ?_ | refine yac ?_ | refine yaf ?_ | refine yaa ?_))
      refine yck (lf := lfB) mixed (by kernel_rfl) rfl ?_
      (repeat (first | refine zI ?_ | refine zL ?_ | refine zC ?_ | refine zK ?_ | refine zB ?_ | refine zA ?_ | refine zS ?_ | refine zU ?_ | refine zV ?_ | refine zF ?_ | refine zX ?_ | refine yag ?_ | refine yao rfl rfl rfl rfl ?_ | refine yak rfl rfl (binarySigns_con) rfl rfl ?_ | refine ybm tok rfl rfl rfl (by omega) (yej hw) rfl rfl ?_))
      refine yeq (a := ba [32]) (b := ba w) rfl rfl (by rw [ybb, ybb]; simp; omega) rfl rfl ?_
      refine yeq (a := ba [32] ++ ba w) (b := ba [32]) rfl rfl (by rw [ByteArray.size_append, ybb, ybb]; simp; omega) rfl rfl ?_
      refine L_wr (yax true es names _ (ba [32] ++ ba w ++ ba [32]) (by rw [ByteArray.size_append, ByteArray.size_append, ybb, ybb]; have := hbla (ybp 4 a); simp only [List.length_append, List.length_cons, List.length_nil]; omega)) rfl rfl rfl rfl (yca rfl rfl) rfl rfl rfl rfl rfl ?_
      (repeat (first | refine zI ?_ | refine zL ?_ | refine zC ?_ | refine yag ?_ | refine yaf ?_ | refine zR ?_ | refine zD ?_ | refine zK ?_ | refine zB ?_ | refine zA ?_ | refine zS ?_ | refine zU ?_ | refine zV ?_ | refine zF ?_ | with_reducible refine yab ?_ | with_reducible refine yad ?_ | refine yaa ?_ | refine yac ?_ | refine yae ?_ | refine zT ?_ | refine zE ?_ | refine zX ?_ | refine yao rfl rfl rfl rfl ?_ | refine L_wr (cb) rfl rfl rfl rfl (yca rfl rfl) rfl rfl rfl rfl rfl ?_))
      rw [ee, er]
      refine yar ?_
      exact ⟨_, rfl, yav _, yap (yca rfl rfl)⟩
    · have ca := iha (k + 1) (yef t.1) u l (by omega) hata (by omega)
      have cb := ihb (k + 1 + a.fl.length) ((yef t.1) + 1) true (l ++ brT (ybp (yef t.1) a) (ybe false names a) ++ bl (ba [32] ++ ba w ++ ba [32])) (by omega) hatb (by simp only [bl_app, ydp]; have := hbla (ybp (yef t.1) a); simp only [List.length_append, List.length_cons, List.length_nil]; omega)
      have ee : l ++ brT (ybp (yef t.1) a) (ybe false names a) ++ bl (ba [32] ++ ba w ++ ba [32]) ++ brT (ybp ((yef t.1) + 1) b) (ybe false names b) = l ++ ybe false names (.bi t a b) := by
        simp only [bl_app, ydp]
        simp only [ybe, Bool.false_or, leftL, h3, if_false, hwE]
        simp
      have hblb := blen hn hEb hab false
      have hbl2 := ydq hn false (.bi t a b) ⟨ht, hEa, hEb⟩ hab0
      refine yaz tok Tryz.func32 rfl rfl Tryz.ntmps32 Tryz.results32 rfl (wr_cl rfl) ?_
      show A _ _ _ _ (S _ _)
      (repeat (first | refine zI ?_ | refine zL ?_ | refine zC ?_ | refine yag ?_ | refine yaf ?_ | refine zR ?_ | refine zD ?_ | refine zK ?_ | refine zB ?_ | refine zA ?_ | refine zS ?_ | refine zU ?_ | refine zV ?_ | refine zF ?_ | with_reducible refine yab ?_ | with_reducible refine yad ?_ | refine yaa ?_ | refine yac ?_ | refine yae ?_ | refine zT ?_ | refine zE ?_ | refine zX ?_ | refine yao rfl rfl rfl rfl ?_ | refine ybm tok rfl rfl rfl (by omega) (ycn hk) rfl rfl ?_ | refine yak rfl rfl (ydm t.1) rfl rfl ?_))
      skip
      (repeat (first | refine zI ?_ | refine zL ?_ | refine zC ?_ | refine yag ?_ | refine yaf ?_ | refine zR ?_ | refine zD ?_ | refine zK ?_ | refine zB ?_ | refine zA ?_ | refine zS ?_ | refine zU ?_ | refine zV ?_ | refine zF ?_ | with_reducible refine yab ?_ | with_reducible refine yad ?_ | refine yaa ?_ | refine yac ?_ | refine yae ?_ | refine zT ?_ | refine zE ?_ | refine zX ?_))
      refine yam rfl (fun h9 => absurd h9 (by simp; omega)) (fun _ => ?_)
      (repeat (first | refine zI ?_ | refine zL ?_ | refine zC ?_ | refine yag ?_ | refine yaf ?_ | refine zR ?_ | refine zD ?_ | refine zK ?_ | refine zB ?_ | refine zA ?_ | refine zS ?_ | refine zU ?_ | refine zV ?_ | refine zF ?_ | with_reducible refine yab ?_ | with_reducible refine yad ?_ | refine yaa ?_ | refine yac ?_ | refine yae ?_ | refine zT ?_ | refine zE ?_ | refine zX ?_))
      refine yam rfl (fun h9 => absurd h9 (by simp; omega)) (fun _ => ?_)
      (repeat (first | refine zI ?_ | refine zL ?_ | refine zC ?_ | refine yag ?_ | refine yaf ?_ | refine zR ?_ | refine zD ?_ | refine zK ?_ | refine zB ?_ | refine zA ?_ | refine zS ?_ | refine zU ?_ | refine zV ?_ | refine zF ?_ | with_reducible refine yab ?_ | with_reducible refine yad ?_ | refine yaa ?_ | refine yac ?_ | refine yae ?_ | refine zT ?_ | refine zE ?_ | refine zX ?_))
      refine yam rfl (fun h9 => absurd h9 (by simp; omega)) (fun _ => ?_)
      (repeat (first | refine zI ?_ | refine zL ?_ | refine zC ?_ | refine yag ?_ | refine yaf ?_ | refine zR ?_ | refine zD ?_ | refine zK ?_ | refine zB ?_ | refine zA ?_ | refine zS ?_ | refine zU ?_ | refine zV ?_ | refine zF ?_ | with_reducible refine yab ?_ | with_reducible refine yad ?_ | refine yaa ?_ | refine yac ?_ | refine yae ?_ | refine zT ?_ | refine zE ?_ | refine zX ?_))
      refine yam rfl (fun h9 => absurd h9 (by simp; omega)) (fun _ => ?_)
      (repeat (first | refine zI ?_ | refine zL ?_ | refine zC ?_ | refine yag ?_ | refine yaf ?_ | refine zR ?_ | refine zD ?_ | refine zK ?_ | refine zB ?_ | refine zA ?_ | refine zS ?_ | refine zU ?_ | refine zV ?_ | refine zF ?_ | with_reducible refine yab ?_ | with_reducible refine yad ?_ | refine yaa ?_ | refine yac ?_ | refine yae ?_ | refine zT ?_ | refine zE ?_ | refine zX ?_))
      refine yam rfl (fun h9 => absurd h9 (by simp; omega)) (fun _ => ?_)
      (repeat (first | refine zI ?_ | refine zL ?_ | refine zC ?_ | refine yag ?_ | refine yaf ?_ | refine zR ?_ | refine zK ?_ | refine zB ?_ | refine zA ?_ | refine zS ?_ | refine zU ?_ | refine zV ?_ | refine zF ?_ | with_reducible refine yab ?_ | with_reducible refine yad ?_ | refine yaa ?_ | refine yac ?_ | refine yae ?_ | refine zT ?_ | refine zE ?_ | refine zX ?_ | refine yao rfl rfl rfl rfl ?_ | refine L_wr (ca) rfl rfl rfl rfl (yca rfl rfl) rfl rfl rfl rfl rfl ?_))
      (repeat (first | with_reducible refine yad ?_ | with_reducible refine yab ?_ | refine yac ?_ | refine yaf ?_ | refine yaa ?_))
      refine yck (lf := lfB) mixed (by kernel_rfl) rfl ?_
      (repeat (first | refine zI ?_ | refine zL ?_ | refine zC ?_ | refine zK ?_ | refine zB ?_ | refine zA ?_ | refine zS ?_ | refine zU ?_ | refine zV ?_ | refine zF ?_ | refine zX ?_ | refine yag ?_ | refine yao rfl rfl rfl rfl ?_ | refine yak rfl rfl (binarySigns_con) rfl rfl ?_ | refine ybm tok rfl rfl rfl (by omega) (yej hw) rfl rfl ?_))
      refine yeq (a := ba [32]) (b := ba w) rfl rfl (by rw [ybb, ybb]; simp; omega) rfl rfl ?_
      refine yeq (a := ba [32] ++ ba w) (b := ba [32]) rfl rfl (by rw [ByteArray.size_append, ybb, ybb]; simp; omega) rfl rfl ?_
      refine L_wr (yax true es names _ (ba [32] ++ ba w ++ ba [32]) (by rw [ByteArray.size_append, ByteArray.size_append, ybb, ybb]; have := hbla (ybp (yef t.1) a); simp only [List.length_append, List.length_cons, List.length_nil]; omega)) rfl rfl rfl rfl (yca rfl rfl) rfl rfl rfl rfl rfl ?_
      (repeat (first | refine zI ?_ | refine zL ?_ | refine zC ?_ | refine yag ?_ | refine yaf ?_ | refine zR ?_ | refine zD ?_ | refine zK ?_ | refine zB ?_ | refine zA ?_ | refine zS ?_ | refine zU ?_ | refine zV ?_ | refine zF ?_ | with_reducible refine yab ?_ | with_reducible refine yad ?_ | refine yaa ?_ | refine yac ?_ | refine yae ?_ | refine zT ?_ | refine zE ?_ | refine zX ?_ | refine yao rfl rfl rfl rfl ?_ | refine L_wr (cb) rfl rfl rfl rfl (yca rfl rfl) rfl rfl rfl rfl rfl ?_))
      rw [ee, er]
      refine yar ?_
      exact ⟨_, rfl, yav _, yap (yca rfl rfl)⟩
theorem brT0 (x : Bs) : brT false x = x := rfl
theorem write_tr {t : Tm} {a b c : Ex} (hes : es.length ≤ 1000) (hn : ∀ w ∈ names, w.length ≤ 24) (ht : ar t.1 = 3) (hEa : a.ok) (hEb : b.ok) (hEc : c.ok) (hab0 : ∀ x ∈ (Ex.tr t a b c).fl, argB names.length x = true) (iha : Writes es names a) (ihb : Writes es names b) (ihc : Writes es names c) : Writes es names (.tr t a b c) := by
  intro k level u l hlev hat hl
  have haa : ∀ x ∈ a.fl, argB names.length x = true := fun x hx => hab0 x (by simp [Ex.fl, hx])
  have hab : ∀ x ∈ b.fl, argB names.length x = true := fun x hx => hab0 x (by simp [Ex.fl, hx])
  have hk := hat.head rfl
  have hbd := hat.bound
  have hlt : k < es.length := (List.getElem?_eq_some_iff.1 hk).1
  obtain ⟨hata, hat2⟩ := AtE.tail (show (t :: (a.fl ++ (b.fl ++ c.fl))) <+: es.drop k from hat)
  have hat3 : (b.fl ++ c.fl) <+: es.drop (k + 1 + a.fl.length) := hat2
  have hatb : AtE es (k + 1 + a.fl.length) b := (List.prefix_append _ _).trans hat3
  have hatc : AtE es (k + 1 + a.fl.length + b.fl.length) c := by
    obtain ⟨p, hp⟩ := hat3
    refine ⟨p, ?_⟩
    rw [← List.drop_drop (i := b.fl.length), ← hp]
    simp
  have h0 : yef t.1 = 0 := by rw [ar_tr ht]; decide
  have hlb : ybp 0 b = false := by simp [ybp]
  have hlc : ybp 0 c = false := by simp [ybp]
  have er : k + 1 + a.fl.length + b.fl.length + c.fl.length = k + (Ex.tr t a b c).fl.length := by simp only [Ex.fl, List.length_cons, List.length_append]; omega
  have hll : l.length + 40 * (Ex.tr t a b c).fl.length ≤ 900000 := hl
  simp only [Ex.fl, List.length_cons, List.length_append] at hl hbd hll
  have hbla : ∀ c, (brT c (ybe false names a)).length ≤ 34 * a.fl.length := blen hn hEa haa
  have hblb := (ydq hn false b hEb hab).1
  by_cases hlo : yef t.1 < level
  · have hlo2 : ybp level (.tr t a b c) = true := decide_eq_true hlo
    rw [hlo2]
    have ca := iha (k + 1) 1 true (l ++ bl (ba [40])) (by omega) hata (by simp only [ydp]; simp only [List.length_append, List.length_cons, List.length_nil]; omega)
    have cb := ihb (k + 1 + a.fl.length) 0 true ((l ++ bl (ba [40])) ++ brT (ybp 1 a) (ybe false names a) ++ bl (ba [32, 63, 32])) (by omega) hatb (by simp only [ydp]; have := hbla (ybp 1 a); simp only [List.length_append, List.length_cons, List.length_nil]; omega)
    have cc := ihc (k + 1 + a.fl.length + b.fl.length) 0 true ((l ++ bl (ba [40])) ++ brT (ybp 1 a) (ybe false names a) ++ bl (ba [32, 63, 32]) ++ ybe false names b ++ bl (ba [32, 58, 32])) (by omega) hatc (by simp only [ydp]; have := hbla (ybp 1 a); have := hblb; simp only [List.length_append, List.length_cons, List.length_nil]; omega)
    rw [hlb] at cb
    rw [hlc] at cc
    simp only [brT0] at cb cc
    have ee : (l ++ bl (ba [40])) ++ brT (ybp 1 a) (ybe false names a) ++ bl (ba [32, 63, 32]) ++ ybe false names b ++ bl (ba [32, 58, 32]) ++ ybe false names c = (l ++ bl (ba [40])) ++ ybe false names (.tr t a b c) := by
      simp only [ydp]
      simp only [ybe, Bool.false_or, brT0]
      simp
    have hbl2 := ydq hn false (.tr t a b c) ⟨ht, hEa, hEb, hEc⟩ hab0
    refine conM_ofD tok Tryz.func32 rfl rfl Tryz.ntmps32 Tryz.results32 rfl (wr_cl rfl) ?_
    show AF _ _ _ _ (S _ _)
    refine yfl (yfa ?_)
    refine yah (lf := lfT) rfl ?_
    (repeat (first | refine zI ?_ | refine zL ?_ | refine zC ?_ | refine zK ?_ | refine zB ?_ | refine zA ?_ | refine zS ?_ | refine zU ?_ | refine zV ?_ | refine zF ?_ | refine zX ?_ | refine yag ?_))
    show AF _ _ _ _ (S _ _)
    refine yfl (yfa ?_)
    refine yah (lf := lfT) rfl ?_
    (repeat (first | refine zI ?_ | refine zL ?_ | refine zC ?_ | refine zK ?_ | refine zB ?_ | refine zA ?_ | refine zS ?_ | refine zU ?_ | refine zV ?_ | refine zF ?_ | refine zX ?_ | refine yag ?_ | refine yao rfl rfl rfl rfl ?_ | refine ybm tok rfl rfl rfl (by omega) (ycn hk) rfl rfl ?_))
    show AF _ _ _ _ (S _ _)
    refine yfl (yfa ?_)
    refine yah (lf := lfT) rfl ?_
    (repeat (first | refine zI ?_ | refine zL ?_ | refine zC ?_ | refine zK ?_ | refine zB ?_ | refine zA ?_ | refine zS ?_ | refine zU ?_ | refine zV ?_ | refine zF ?_ | refine zX ?_ | refine yag ?_ | refine yak rfl rfl (ydm t.1) rfl rfl ?_))
    rw [h0]
    show AF _ _ _ _ (S _ _)
    refine yfl ?_
    refine yfl (yfa ?_)
    refine yah (lf := lfT) rfl ?_
    (repeat (first | refine zI ?_ | refine zL ?_ | refine zC ?_ | refine zK ?_ | refine zB ?_ | refine zA ?_ | refine zS ?_ | refine zU ?_ | refine zV ?_ | refine zF ?_ | refine zX ?_ | refine yag ?_))
    show AF _ _ _ _ (S _ _)
    refine AF_cond rfl (fun _ => ?_) (fun h9 => absurd h9 (by simp; omega))
    refine yfl (yfa ?_)
    refine yah (lf := lfT) rfl ?_
    (repeat (first | refine zI ?_ | refine zL ?_ | refine zC ?_ | refine zK ?_ | refine zB ?_ | refine zA ?_ | refine zS ?_ | refine zU ?_ | refine zV ?_ | refine zF ?_ | refine zX ?_ | refine yag ?_ | refine yao rfl rfl rfl rfl ?_ | refine L_wr (yax u es names l (ba [40]) (by rw [ybb]; simp; omega)) rfl rfl rfl rfl (yca rfl rfl) rfl rfl rfl rfl rfl ?_))
    show AF _ _ _ _ (S _ _)
    refine AF_region_defer (lf := lfT) 3 rfl rfl rfl rfl rfl rfl (fun d h => by cases h) ?_
    (repeat (first | refine zI ?_ | refine zL ?_ | refine zC ?_ | refine zK ?_ | refine zB ?_ | refine zA ?_ | refine zS ?_ | refine zU ?_ | refine zV ?_ | refine zF ?_ | refine zX ?_ | refine yag ?_ | refine yao rfl rfl rfl rfl ?_))
    refine ⟨rfl, _, _, _, ⟨_, Tryz.func66, rfl, rfl⟩, rfl, rfl, fun x hx => low_none rfl hx, ?_⟩
    show Lex _ _ _ _ _ [] _
    refine .nil ?_
    show A _ _ _ _ _
    refine A_weak (s' := S [(0, .lp 1001 0), (1, i64 k), (7, i64 t.1), (8, i64 (0 : Nat)), (1000000, .lp 1001 0), (1000001, yey (ba [41]))] (wrH true es names (l ++ bl (ba [40])))) ?_ ⟨subF_look ⟨rfl, rfl, rfl, rfl, rfl, rfl, trivial⟩, fun id x h => h⟩
    (repeat (first | refine zI ?_ | refine zL ?_ | refine zC ?_ | refine yag ?_ | refine yaf ?_ | refine zR ?_ | refine zD ?_ | refine zK ?_ | refine zB ?_ | refine zA ?_ | refine zS ?_ | refine zU ?_ | refine zV ?_ | refine zF ?_ | with_reducible refine yab ?_ | with_reducible refine yad ?_ | refine yaa ?_ | refine yac ?_ | refine yae ?_ | refine zT ?_ | refine zE ?_ | refine zX ?_))
    (repeat (first | refine zI ?_ | refine zL ?_ | refine zC ?_ | refine yag ?_ | refine yaf ?_ | refine zR ?_ | refine zD ?_ | refine zK ?_ | refine zB ?_ | refine zA ?_ | refine zS ?_ | refine zU ?_ | refine zV ?_ | refine zF ?_ | with_reducible refine yab ?_ | with_reducible refine yad ?_ | refine yaa ?_ | refine yac ?_ | refine yae ?_ | refine zT ?_ | refine zE ?_ | refine zX ?_ | refine yao rfl rfl rfl rfl ?_ | refine L_wr (ca) rfl rfl rfl rfl (yca rfl rfl) rfl rfl rfl rfl rfl ?_ | refine L_wr (yax true es names ((l ++ bl (ba [40])) ++ brT (ybp 1 a) (ybe false names a)) (ba [32, 63, 32]) (by rw [ybb]; (try simp only [ydp]); have := hbla (ybp 1 a); have := hblb; simp only [List.length_append, List.length_cons, List.length_nil]; omega)) rfl rfl rfl rfl (yca rfl rfl) rfl rfl rfl rfl rfl ?_ | refine L_wr (cb) rfl rfl rfl rfl (yca rfl rfl) rfl rfl rfl rfl rfl ?_ | refine L_wr (yax true es names ((l ++ bl (ba [40])) ++ brT (ybp 1 a) (ybe false names a) ++ bl (ba [32, 63, 32]) ++ ybe false names b) (ba [32, 58, 32]) (by rw [ybb]; (try simp only [ydp]); have := hbla (ybp 1 a); have := hblb; simp only [List.length_append, List.length_cons, List.length_nil]; omega)) rfl rfl rfl rfl (yca rfl rfl) rfl rfl rfl rfl rfl ?_ | refine L_wr (cc) rfl rfl rfl rfl (yca rfl rfl) rfl rfl rfl rfl rfl ?_))
    rw [ee, er]
    refine yar ?_
    refine ends_defer (h' := []) (args0 := [.lp 1001 0, yey (ba [41])]) (hm := wrH true es names (l ++ bl (ba [40]) ++ ybe false names (Ex.tr t a b c))) (hm' := wrH true es names (l ++ bl (ba [40]) ++ ybe false names (Ex.tr t a b c) ++ bl (ba [41]))) [(1001, 1001), (1003, 1003)] rfl rfl rfl ⟨rfl, rfl, trivial⟩ (w_writeString_K true es names _ (ba [41]) (by rw [ybb, ydp]; simp only [List.length_append, List.length_cons, List.length_nil]; omega)) rfl rfl rfl rfl (by rw [renO_wr]; exact yca rfl rfl) rfl (fun j ob hj hob => by cases hob) rfl (yav _) (fun id o ho => ?_)
    rw [show l ++ brT true (ybe false names (Ex.tr t a b c)) = l ++ bl (ba [40]) ++ ybe false names (Ex.tr t a b c) ++ bl (ba [41]) by rw [ydp, ydp]; simp [brT]] at ho
    exact ho
  · have hlo2 : ybp level (.tr t a b c) = false := decide_eq_false hlo
    rw [hlo2]
    have ca := iha (k + 1) 1 u l (by omega) hata (by omega)
    have cb := ihb (k + 1 + a.fl.length) 0 true (l ++ brT (ybp 1 a) (ybe false names a) ++ bl (ba [32, 63, 32])) (by omega) hatb (by simp only [ydp]; have := hbla (ybp 1 a); simp only [List.length_append, List.length_cons, List.length_nil]; omega)
    have cc := ihc (k + 1 + a.fl.length + b.fl.length) 0 true (l ++ brT (ybp 1 a) (ybe false names a) ++ bl (ba [32, 63, 32]) ++ ybe false names b ++ bl (ba [32, 58, 32])) (by omega) hatc (by simp only [ydp]; have := hbla (ybp 1 a); have := hblb; simp only [List.length_append, List.length_cons, List.length_nil]; omega)
    rw [hlb] at cb
    rw [hlc] at cc
    simp only [brT0] at cb cc
    have ee : l ++ brT (ybp 1 a) (ybe false names a) ++ bl (ba [32, 63, 32]) ++ ybe false names b ++ bl (ba [32, 58, 32]) ++ ybe false names c = l ++ ybe false names (.tr t a b c) := by
      simp only [ydp]
      simp only [ybe, Bool.false_or, brT0]
      simp
    have hbl2 := ydq hn false (.tr t a b c) ⟨ht, hEa, hEb, hEc⟩ hab0
    refine yaz tok Tryz.func32 rfl rfl Tryz.ntmps32 Tryz.results32 rfl (wr_cl rfl) ?_
    show A _ _ _ _ (S _ _)
    (repeat (first | refine zI ?_ | refine zL ?_ | refine zC ?_ | refine yag ?_ | refine yaf ?_ | refine zR ?_ | refine zD ?_ | refine zK ?_ | refine zB ?_ | refine zA ?_ | refine zS ?_ | refine zU ?_ | refine zV ?_ | refine zF ?_ | with_reducible refine yab ?_ | with_reducible refine yad ?_ | refine yaa ?_ | refine yac ?_ | refine yae ?_ | refine zT ?_ | refine zE ?_ | refine zX ?_ | refine yao rfl rfl rfl rfl ?_ | refine ybm tok rfl rfl rfl (by omega) (ycn hk) rfl rfl ?_ | refine yak rfl rfl (ydm t.1) rfl rfl ?_))
    rw [h0]
    (repeat (first | refine zI ?_ | refine zL ?_ | refine zC ?_ | refine yag ?_ | refine yaf ?_ | refine zR ?_ | refine zD ?_ | refine zK ?_ | refine zB ?_ | refine zA ?_ | refine zS ?_ | refine zU ?_ | refine zV ?_ | refine zF ?_ | with_reducible refine yab ?_ | with_reducible refine yad ?_ | refine yaa ?_ | refine yac ?_ | refine yae ?_ | refine zT ?_ | refine zE ?_ | refine zX ?_))
    refine yam rfl (fun h9 => absurd h9 (by simp; omega)) (fun _ => ?_)
    (repeat (first | refine zI ?_ | refine zL ?_ | refine zC ?_ | refine yag ?_ | refine yaf ?_ | refine zR ?_ | refine zD ?_ | refine zK ?_ | refine zB ?_ | refine zA ?_ | refine zS ?_ | refine zU ?_ | refine zV ?_ | refine zF ?_ | with_reducible refine yab ?_ | with_reducible refine yad ?_ | refine yaa ?_ | refine yac ?_ | refine yae ?_ | refine zT ?_ | refine zE ?_ | refine zX ?_))
    (repeat (first | refine zI ?_ | refine zL ?_ | refine zC ?_ | refine yag ?_ | refine yaf ?_ | refine zR ?_ | refine zD ?_ | refine zK ?_ | refine zB ?_ | refine zA ?_ | refine zS ?_ | refine zU ?_ | refine zV ?_ | refine zF ?_ | with_reducible refine yab ?_ | with_reducible refine yad ?_ | refine yaa ?_ | refine yac ?_ | refine yae ?_ | refine zT ?_ | refine zE ?_ | refine zX ?_ | refine yao rfl rfl rfl rfl ?_ | refine L_wr (ca) rfl rfl rfl rfl (yca rfl rfl) rfl rfl rfl rfl rfl ?_ | refine L_wr (yax true es names (l ++ brT (ybp 1 a) (ybe false names a)) (ba [32, 63, 32]) (by rw [ybb]; (try simp only [ydp]); have := hbla (ybp 1 a); have := hblb; simp only [List.length_append, List.length_cons, List.length_nil]; omega)) rfl rfl rfl rfl (yca rfl rfl) rfl rfl rfl rfl rfl ?_ | refine L_wr (cb) rfl rfl rfl rfl (yca rfl rfl) rfl rfl rfl rfl rfl ?_ | refine L_wr (yax true es names (l ++ brT (ybp 1 a) (ybe false names a) ++ bl (ba [32, 63, 32]) ++ ybe false names b) (ba [32, 58, 32]) (by rw [ybb]; (try simp only [ydp]); have := hbla (ybp 1 a); have := hblb; simp only [List.length_append, List.length_cons, List.length_nil]; omega)) rfl rfl rfl rfl (yca rfl rfl) rfl rfl rfl rfl rfl ?_ | refine L_wr (cc) rfl rfl rfl rfl (yca rfl rfl) rfl rfl rfl rfl rfl ?_))
    rw [ee, er]
    refine yar ?_
    exact ⟨_, rfl, yav _, yap (yca rfl rfl)⟩
theorem write_all (hes : es.length ≤ 1000) (hn : ∀ w ∈ names, w.length ≤ 24) : ∀ (E : Ex), E.ok → (∀ x ∈ E.fl, argB names.length x = true) → Writes es names E
  | .lf t, hE, ha => write_lf hes hn hE (ha t (by simp [Ex.fl]))
  | .un t a, hE, ha => write_un hes hn hE.1 hE.2 (fun x hx => ha x (by simp [Ex.fl, hx])) (write_all hes hn a hE.2 fun x hx => ha x (by simp [Ex.fl, hx]))
  | .bi t a b, hE, ha => write_bi hes hn hE.1 hE.2.1 hE.2.2 ha (write_all hes hn a hE.2.1 fun x hx => ha x (by simp [Ex.fl, hx])) (write_all hes hn b hE.2.2 fun x hx => ha x (by simp [Ex.fl, hx]))
  | .tr t a b c, hE, ha => write_tr hes hn hE.1 hE.2.1 hE.2.2.1 hE.2.2.2 ha (write_all hes hn a hE.2.1 fun x hx => ha x (by simp [Ex.fl, hx])) (write_all hes hn b hE.2.2.1 fun x hx => ha x (by simp [Ex.fl, hx])) (write_all hes hn c hE.2.2.2 fun x hx => ha x (by simp [Ex.fl, hx]))
end
end Go.Proofs.YtcpgpiabeimefaaGreatDoor
set_option linter.unusedVariables false
set_option maxRecDepth 100000
set_option maxHeartbeats 4000000
namespace Go.Proofs.YtcpgpiabeimefaaGreatDoor
open Go.RowKit
def formatA (q : Bs × Int) : AV := .tup [yey (ba q.1), i64 q.2]
theorem formatX_bad {nm : Bs → Bool} {names : List Bs} {e : List Tm} (h : ¬ (yeo nm names = true ∧ yda e names.length = true)) : formatX nm names e = ([], 7) := by rw [formatX, if_neg h]
theorem formatX_good {nm : Bs → Bool} {names : List Bs} {e : List Tm} (h1 : yeo nm names = true) (h2 : yda e names.length = true) : formatX nm names e = (yec false names e, 0) := by rw [formatX, if_pos ⟨h1, h2⟩]
theorem good_len {names : List Bs} (h : yeo nmW names = true) : ∀ w ∈ names, w.length ≤ 24 := fun w hw => (nmW_spec ((goodL_spec h).2.1 w hw)).1.1
theorem body_ne {names : List Bs} (h : yeo nmW names = true) {E : Ex} (hE : E.ok) (ha : ∀ t ∈ E.fl, argB names.length t = true) (al : Bool) : ybe al names E ≠ [] := by
  obtain ⟨c, y, h1, _⟩ := wr_head (nmW_names.words h) (body_wr al E hE ha)
  rw [h1]
  simp
theorem format_con (e : List Tm) (names : List Bs) (he : e.length ≤ 1000000) (hl : names.length ≤ 1000) (hn : ∀ x ∈ names, x.length ≤ 1000) : Con Tryz.prog 15 [yay e, ybj names] (formatA (formatX nmW names e)) := by
  refine ybw Tryz.func15 rfl rfl Tryz.ntmps15 Tryz.results15 rfl rfl ?_
  (repeat (first | refine zI ?_ | refine zL ?_ | refine zC ?_ | refine yag ?_ | refine yaf ?_ | refine zR ?_ | refine zD ?_ | refine zK ?_ | refine zB ?_ | refine zA ?_ | refine zS ?_ | refine zU ?_ | refine zV ?_ | refine zF ?_ | with_reducible refine yab ?_ | with_reducible refine yad ?_ | refine yaa ?_ | refine yac ?_ | refine yae ?_ | refine zT ?_ | refine zE ?_ | refine zX ?_ | refine yak rfl rfl (good_con names hl hn) rfl rfl ?_))
  refine ych 10 rfl (fun h1 => ?_) (fun h1 => ?_)
  · have h1 : ¬ yeo nmW names = true := by simpa using h1
    (repeat (first | refine zI ?_ | refine zL ?_ | refine zC ?_ | refine yag ?_ | refine yaf ?_ | refine zR ?_ | refine zD ?_ | refine zK ?_ | refine zB ?_ | refine zA ?_ | refine zS ?_ | refine zU ?_ | refine zV ?_ | refine zF ?_ | with_reducible refine yab ?_ | with_reducible refine yad ?_ | refine yaa ?_ | refine yac ?_ | refine yae ?_ | refine zT ?_ | refine zE ?_ | refine zX ?_))
    refine yar ?_; refine ⟨_, rfl, ?_⟩
    rw [formatX_bad (fun h => h1 h.1)]
    exact Frz.pure
  have h1 : yeo nmW names = true := by simpa using h1
  (repeat (first | refine zI ?_ | refine zL ?_ | refine zC ?_ | refine yag ?_ | refine yaf ?_ | refine zR ?_ | refine zD ?_ | refine zK ?_ | refine zB ?_ | refine zA ?_ | refine zS ?_ | refine zU ?_ | refine zV ?_ | refine zF ?_ | with_reducible refine yab ?_ | with_reducible refine yad ?_ | refine yaa ?_ | refine yac ?_ | refine yae ?_ | refine zT ?_ | refine zE ?_ | refine zX ?_ | refine yak rfl rfl (xvalid_con e names.length he) rfl rfl ?_))
  refine yam rfl (fun h2 => ?_) (fun h2 => ?_)
  · have h2 : ¬ yda e names.length = true := by simpa using h2
    (repeat (first | refine zI ?_ | refine zL ?_ | refine zC ?_ | refine yag ?_ | refine yaf ?_ | refine zR ?_ | refine zD ?_ | refine zK ?_ | refine zB ?_ | refine zA ?_ | refine zS ?_ | refine zU ?_ | refine zV ?_ | refine zF ?_ | with_reducible refine yab ?_ | with_reducible refine yad ?_ | refine yaa ?_ | refine yac ?_ | refine yae ?_ | refine zT ?_ | refine zE ?_ | refine zX ?_))
    refine yar ?_; refine ⟨_, rfl, ?_⟩
    rw [formatX_bad (fun h => h2 h.2)]
    exact Frz.pure
  have h2 : yda e names.length = true := by simpa using h2
  obtain ⟨E, hp, hE, hfl, hlen, hargs⟩ := valid_spec h2
  have hnl := good_len h1
  have hw := write_all (es := e) (names := names) (by omega) hnl E hE (hfl ▸ hargs) 0 0 false [] (by omega) (by rw [AtE, hfl]; exact List.prefix_refl _) (by rw [hfl]; simp; omega)
  have hlo : ybp 0 E = false := by simp [ybp]
  rw [hlo, Nat.zero_add, hfl] at hw
  have hft : yec false names e = ybe false names E := by rw [yec, hp]
  have hbl := (ydq hnl false E hE (hfl ▸ hargs)).1
  rw [hfl] at hbl
  have hne2 := body_ne h1 hE (hfl ▸ hargs) false
  (repeat (first | with_reducible refine yad ?_ | with_reducible refine yab ?_ | refine yac ?_ | refine yaf ?_ | refine yaa ?_))
  refine yah (lf := lfT) rfl ?_
  (repeat (first | refine zC ?_ | refine zU ?_))
  refine L_allocT tok rfl rfl rfl rfl rfl rfl rfl ?_
  refine L_storeT tok rfl rfl rfl rfl rfl rfl (List.cons_ne_nil _ _) rfl rfl rfl ?_
  refine yag ?_
  (repeat (first | with_reducible refine yad ?_ | with_reducible refine yab ?_ | refine yac ?_ | refine yaf ?_ | refine yaa ?_))
  refine A_ownCT 6 1 1003 1 5 rfl rfl rfl rfl rfl ?_
  refine yah (lf := lfT) rfl ?_
  refine L_callM [(1001, 6), (1003, 1003)] hw rfl rfl rfl rfl rfl rfl rfl (yai rfl (yai rfl yan)) rfl rfl rfl rfl rfl rfl ?_
  refine yag ?_
  (repeat (first | with_reducible refine yad ?_ | with_reducible refine yab ?_ | refine yac ?_ | refine yaf ?_ | refine yaa ?_)); refine yah (lf := lfT) rfl ?_
  refine zC ?_
  refine L_callM [(1001, 6), (1003, 1003)] (w_len_con true e names _ (by simp only [brT, List.nil_append]; omega)) rfl rfl rfl rfl rfl rfl rfl (yai rfl (yai rfl yan)) rfl rfl rfl rfl rfl rfl ?_
  (repeat (first | refine zI ?_ | refine zL ?_ | refine zC ?_ | refine zK ?_ | refine zB ?_ | refine zA ?_ | refine zS ?_ | refine zU ?_ | refine zV ?_ | refine zF ?_ | refine zX ?_ | refine yag ?_))
  (repeat (first | with_reducible refine yad ?_ | with_reducible refine yab ?_ | refine yac ?_ | refine yaf ?_ | refine yaa ?_))
  refine yam rfl (fun h9 => absurd h9 (by simp [brT]; omega)) (fun _ => ?_)
  (repeat (first | with_reducible refine yad ?_ | with_reducible refine yab ?_ | refine yac ?_ | refine yaf ?_ | refine yaa ?_)); refine yah (lf := lfT) rfl ?_
  refine zC ?_
  refine L_callM [(1001, 6), (1003, 1003)] (w_string_con true e names _ (by simpa [brT] using hne2) (by simp only [brT, List.nil_append]; omega)) rfl rfl rfl rfl rfl rfl rfl (yai rfl (yai rfl yan)) rfl rfl rfl rfl rfl rfl ?_
  (repeat (first | refine zI ?_ | refine zL ?_ | refine zC ?_ | refine zK ?_ | refine zB ?_ | refine zA ?_ | refine zS ?_ | refine zU ?_ | refine zV ?_ | refine zF ?_ | refine zX ?_ | refine yag ?_))
  (repeat (first | with_reducible refine yad ?_ | with_reducible refine yab ?_ | refine yac ?_ | refine yaf ?_ | refine yaa ?_))
  refine yar ?_; refine ⟨_, rfl, ?_⟩
  rw [formatX_good h1 h2, hft]
  exact Frz.pure
end Go.Proofs.YtcpgpiabeimefaaGreatDoor
