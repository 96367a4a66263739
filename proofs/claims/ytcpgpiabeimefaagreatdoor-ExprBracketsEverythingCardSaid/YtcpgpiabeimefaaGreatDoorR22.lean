/- Part 22 of the texts under ExprFormats,ExprBracketsEverything: joined, with what it needs alone. -/
import Derived.Test.YtcpgpiabeimefaaGreatDoorR21
set_option linter.unusedVariables false
set_option maxRecDepth 100000
set_option maxHeartbeats 4000000
namespace Go.Proofs.YtcpgpiabeimefaaGreatDoor
open Go.RowKit
def yjm (es : List Tm) (names : List Bs) (E : Ex) : Prop := ∀ (k : Nat), AtE es k E → Con Tryz.prog 18 [ybc es, i64 k, ybe names] (yff (ba (yax true names E)))
section
variable {es : List Tm} {names : List Bs}
theorem part_rows {k : Nat} {E : Ex} {r : List Tm} (h : es.drop k = E.fl ++ r) : List.drop k (List.take (k + E.fl.length) es) = E.fl := by
  rw [List.drop_take, h, Nat.add_sub_cancel_left]
  simp
theorem part_map {k n : Nat} {E : Ex} {r : List Tm} {f : Tm → List AV} (h : es.drop k = E.fl ++ r) (hn : n = k + E.fl.length) : List.drop k (List.take n (es.map f)) = E.fl.map f := by
  rw [hn, ← List.map_take, ← List.map_drop, part_rows h]
theorem pure_terms (l : List Tm) : ∀ c ∈ (List.map ydg l).flatten, ybp c = true := by
  intro c hc
  obtain ⟨r, hr, hc⟩ := List.mem_flatten.1 hc
  obtain ⟨t, _, rfl⟩ := List.mem_map.1 hr
  simp only [ydg, List.mem_cons, List.not_mem_nil, or_false] at hc
  rcases hc with rfl | rfl <;> rfl
theorem rows_two (l : List Tm) : ∀ row ∈ List.map ydg l, row.length = 2 := by
  intro row hr
  obtain ⟨t, _, rfl⟩ := List.mem_map.1 hr
  rfl
theorem agg_w {op : Int} (h : 20 ≤ op ∧ op ≤ 29) : ykc[(op - 20).toNat]? = some (ykv op) ∧ (ykv op).length ≤ 6 := by
  obtain ⟨k, rfl⟩ := yhb (lo := 20) (n := 10) h.1 (by omega)
  revert k
  decide
theorem bin_w {op : Int} (h : 30 ≤ op ∧ op ≤ 42) : ykk[(op - 30).toNat]? = some (ykw op) ∧ (ykw op).length ≤ 2 := by
  obtain ⟨k, rfl⟩ := yhb (lo := 30) (n := 13) h.1 (by omega)
  revert k
  decide
theorem full_lf {t : Tm} (hes : es.length ≤ 1000) (hn : ∀ w ∈ names, w.length ≤ 24) (hE : ar t.1 = 0) (ha : yep names.length t = true) : yjm es names (.lf t) := by
  intro k hat
  have hk := hat.head rfl
  have hbd := hat.bound
  obtain ⟨r, hr⟩ := hat
  have h1 := rend_con es k (.lf t) r hes (by omega) hr.symm hE
  have ht := text_lf (es := [t]) (names := names) (by simp) hn hE ha 0 (by exact List.prefix_refl _)
  refine ybt Tryz.func18 rfl rfl Tryz.ntmps18 Tryz.results18 rfl rfl ?_
  (repeat (first | refine zI ?_ | refine zL ?_ | refine zC ?_ | refine yaf ?_ | refine yae ?_ | refine zR ?_ | refine zD ?_ | refine zK ?_ | refine zB ?_ | refine zA ?_ | refine zS ?_ | refine zU ?_ | refine zV ?_ | refine zF ?_ | with_reducible refine yab ?_ | with_reducible refine yad ?_ | refine yaa ?_ | refine yac ?_ | refine yag ?_ | refine zT ?_ | refine zE ?_ | refine zX ?_ | refine ybd tok rfl rfl rfl (by omega) (ycb hk) rfl rfl ?_ | refine yal rfl rfl h1 rfl rfl ?_))
  refine L_slslice tok rfl rfl rfl rfl (by show (0 : Int) ≤ (k : Int); omega) (by show (k : Int) ≤ ((k + (Ex.lf t).fl.length : Nat) : Int); omega) (by show ((k + (Ex.lf t).fl.length : Nat) : Int) ≤ ((List.map _ es).length : Int); rw [List.length_map]; omega) rfl rfl ?_
  refine L_same 23 (y := .sl 2 (List.map ydg [t])) rfl ?_ ?_
  · show AV.sl 2 (List.drop ((k : Nat) : Int).toNat (List.take (((k + (Ex.lf t).fl.length : Nat) : Int)).toNat (es.map _))) = _
    rw [Int.toNat_natCast, Int.toNat_natCast, part_map hr.symm rfl]
    rfl
  refine L_appendNil tok rfl rfl rfl (pure_terms _) ⟨by simp, by simp⟩ rfl rfl rfl rfl rfl ?_
  (repeat (first | refine zI ?_ | refine zL ?_ | refine zC ?_ | refine zK ?_ | refine zB ?_ | refine zA ?_ | refine zS ?_ | refine zU ?_ | refine zV ?_ | refine zF ?_ | refine zX ?_ | refine yaf ?_))
  (repeat (first | with_reducible refine yad ?_ | with_reducible refine yab ?_ | refine yac ?_ | refine yae ?_ | refine yaa ?_))
  refine A_freeze 8 (List.map ydg [t]) rfl rfl rfl (rows_two _) rfl rfl rfl ?_
  (repeat (first | refine zI ?_ | refine zL ?_ | refine zC ?_ | refine yaf ?_ | refine yae ?_ | refine zR ?_ | refine zD ?_ | refine zK ?_ | refine zB ?_ | refine zA ?_ | refine zS ?_ | refine zU ?_ | refine zV ?_ | refine zF ?_ | with_reducible refine yab ?_ | with_reducible refine yad ?_ | refine yaa ?_ | refine yac ?_ | refine yag ?_ | refine zT ?_ | refine zE ?_ | refine zX ?_ | refine yal rfl rfl (yfb t.1) rfl rfl ?_))
  refine yaq rfl (fun _ => ?_) (fun h9 => absurd h9 (by simp [hE]))
  (repeat (first | refine zI ?_ | refine zL ?_ | refine zC ?_ | refine yaf ?_ | refine yae ?_ | refine zR ?_ | refine zD ?_ | refine zK ?_ | refine zB ?_ | refine zA ?_ | refine zS ?_ | refine zU ?_ | refine zV ?_ | refine zF ?_ | with_reducible refine yab ?_ | with_reducible refine yad ?_ | refine yaa ?_ | refine yac ?_ | refine yag ?_ | refine zT ?_ | refine zE ?_ | refine zX ?_ | refine yal rfl rfl ht rfl rfl ?_))
  refine yau ?_; refine ⟨_, rfl, ?_⟩
  exact Frz.pure
theorem blenT (hn : ∀ w ∈ names, w.length ≤ 24) {E : Ex} (hE : E.ok) (ha : ∀ t ∈ E.fl, yep names.length t = true) : (yax true names E).length ≤ 34 * E.fl.length := by
  have h1 := (ycv hn true E hE ha).1
  omega
theorem full_un {t : Tm} {a : Ex} (hes : es.length ≤ 1000) (hn : ∀ w ∈ names, w.length ≤ 24) (ht : ar t.1 = 1) (hE : a.ok) (ha : ∀ x ∈ a.fl, yep names.length x = true) (iha : yjm es names a) : yjm es names (.un t a) := by
  intro k hat
  have hk := hat.head rfl
  have hbd := hat.bound
  have hata : AtE es (k + 1) a := (AtE.tail (y := []) (by have h : (t :: a.fl) <+: es.drop k := hat; simpa using h)).1
  obtain ⟨r, hr⟩ := hat
  have h1 := rend_con es k (.un t a) r hes (by omega) hr.symm ⟨ht, hE⟩
  have hop := ar_un ht
  have hbl := blenT hn hE ha
  have hfl : (Ex.un t a).fl.length = a.fl.length + 1 := by simp [Ex.fl]
  have ca := iha (k + 1) hata
  refine ybt Tryz.func18 rfl rfl Tryz.ntmps18 Tryz.results18 rfl rfl ?_
  (repeat (first | refine zI ?_ | refine zL ?_ | refine zC ?_ | refine yaf ?_ | refine yae ?_ | refine zR ?_ | refine zD ?_ | refine zK ?_ | refine zB ?_ | refine zA ?_ | refine zS ?_ | refine zU ?_ | refine zV ?_ | refine zF ?_ | with_reducible refine yab ?_ | with_reducible refine yad ?_ | refine yaa ?_ | refine yac ?_ | refine yag ?_ | refine zT ?_ | refine zE ?_ | refine zX ?_ | refine ybd tok rfl rfl rfl (by omega) (ycb hk) rfl rfl ?_ | refine yal rfl rfl h1 rfl rfl ?_))
  refine L_slslice tok rfl rfl rfl rfl (by show (0 : Int) ≤ (k : Int); omega) (by show (k : Int) ≤ ((k + (Ex.un t a).fl.length : Nat) : Int); omega) (by show ((k + (Ex.un t a).fl.length : Nat) : Int) ≤ ((List.map _ es).length : Int); rw [List.length_map]; omega) rfl rfl ?_
  refine L_same 23 (y := .sl 2 (List.map ydg (Ex.un t a).fl)) rfl ?_ ?_
  · show AV.sl 2 (List.drop ((k : Nat) : Int).toNat (List.take (((k + (Ex.un t a).fl.length : Nat) : Int)).toNat (es.map _))) = _
    rw [Int.toNat_natCast, Int.toNat_natCast, part_map hr.symm rfl]
  refine L_appendNil tok rfl rfl rfl (pure_terms _) ⟨by rw [List.length_map]; omega, by rw [List.length_map]; omega⟩ rfl rfl rfl rfl rfl ?_
  (repeat (first | refine zI ?_ | refine zL ?_ | refine zC ?_ | refine zK ?_ | refine zB ?_ | refine zA ?_ | refine zS ?_ | refine zU ?_ | refine zV ?_ | refine zF ?_ | refine zX ?_ | refine yaf ?_))
  (repeat (first | with_reducible refine yad ?_ | with_reducible refine yab ?_ | refine yac ?_ | refine yae ?_ | refine yaa ?_))
  refine A_freeze 8 (List.map ydg (Ex.un t a).fl) rfl rfl rfl (rows_two _) rfl rfl rfl ?_
  (repeat (first | refine zI ?_ | refine zL ?_ | refine zC ?_ | refine yaf ?_ | refine yae ?_ | refine zR ?_ | refine zD ?_ | refine zK ?_ | refine zB ?_ | refine zA ?_ | refine zS ?_ | refine zU ?_ | refine zV ?_ | refine zF ?_ | with_reducible refine yab ?_ | with_reducible refine yad ?_ | refine yaa ?_ | refine yac ?_ | refine yag ?_ | refine zT ?_ | refine zE ?_ | refine zX ?_ | refine yal rfl rfl (yfb t.1) rfl rfl ?_))
  refine yaq rfl (fun h9 => absurd h9 (by simp [ht])) (fun _ => ?_)
  (repeat (first | refine zI ?_ | refine zL ?_ | refine zC ?_ | refine yaf ?_ | refine yae ?_ | refine zR ?_ | refine zD ?_ | refine zK ?_ | refine zB ?_ | refine zA ?_ | refine zS ?_ | refine zU ?_ | refine zV ?_ | refine zF ?_ | with_reducible refine yab ?_ | with_reducible refine yad ?_ | refine yaa ?_ | refine yac ?_ | refine yag ?_ | refine zT ?_ | refine zE ?_ | refine zX ?_ | refine yal rfl rfl ca rfl rfl ?_))
  refine ydi (a := [40]) rfl rfl (by simp only [List.length_cons, List.length_nil]; omega) rfl rfl ?_
  refine ydi (b := [41]) rfl rfl (by simp only [List.length_cons, List.length_nil, List.length_append]; omega) rfl rfl ?_
  (repeat (first | refine zI ?_ | refine zL ?_ | refine zC ?_ | refine yaf ?_ | refine yae ?_ | refine zR ?_ | refine zD ?_ | refine zK ?_ | refine zB ?_ | refine zA ?_ | refine zS ?_ | refine zU ?_ | refine zV ?_ | refine zF ?_ | with_reducible refine yab ?_ | with_reducible refine yad ?_ | refine yaa ?_ | refine yac ?_ | refine yag ?_ | refine zT ?_ | refine zE ?_ | refine zX ?_))
  refine yaq rfl (fun h18 => ?_) (fun h18 => ?_)
  · have h18 : t.1 = 18 := by simpa using h18
    (repeat (first | refine zI ?_ | refine zL ?_ | refine zC ?_ | refine yaf ?_ | refine yae ?_ | refine zR ?_ | refine zD ?_ | refine zK ?_ | refine zB ?_ | refine zA ?_ | refine zS ?_ | refine zU ?_ | refine zV ?_ | refine zF ?_ | with_reducible refine yab ?_ | with_reducible refine yad ?_ | refine yaa ?_ | refine yac ?_ | refine yag ?_ | refine zT ?_ | refine zE ?_ | refine zX ?_))
    refine ydi (a := [45]) rfl rfl (by simp only [List.length_cons, List.length_nil, List.length_append]; omega) rfl rfl ?_
    (repeat (first | refine zI ?_ | refine zL ?_ | refine zC ?_ | refine yaf ?_ | refine yae ?_ | refine zR ?_ | refine zD ?_ | refine zK ?_ | refine zB ?_ | refine zA ?_ | refine zS ?_ | refine zU ?_ | refine zV ?_ | refine zF ?_ | with_reducible refine yab ?_ | with_reducible refine yad ?_ | refine yaa ?_ | refine yac ?_ | refine yag ?_ | refine zT ?_ | refine zE ?_ | refine zX ?_))
    refine yau ?_; refine ⟨_, rfl, ?_⟩
    exact yem (by simp [yax, h18, brT])
  have h18 : t.1 ≠ 18 := by simpa using h18
  (repeat (first | refine zI ?_ | refine zL ?_ | refine zC ?_ | refine yaf ?_ | refine yae ?_ | refine zR ?_ | refine zD ?_ | refine zK ?_ | refine zB ?_ | refine zA ?_ | refine zS ?_ | refine zU ?_ | refine zV ?_ | refine zF ?_ | with_reducible refine yab ?_ | with_reducible refine yad ?_ | refine yaa ?_ | refine yac ?_ | refine yag ?_ | refine zT ?_ | refine zE ?_ | refine zX ?_))
  refine yaq rfl (fun h19 => ?_) (fun h19 => ?_)
  · have h19 : t.1 = 19 := by simpa using h19
    (repeat (first | refine zI ?_ | refine zL ?_ | refine zC ?_ | refine yaf ?_ | refine yae ?_ | refine zR ?_ | refine zD ?_ | refine zK ?_ | refine zB ?_ | refine zA ?_ | refine zS ?_ | refine zU ?_ | refine zV ?_ | refine zF ?_ | with_reducible refine yab ?_ | with_reducible refine yad ?_ | refine yaa ?_ | refine yac ?_ | refine yag ?_ | refine zT ?_ | refine zE ?_ | refine zX ?_))
    refine ydi (a := [33]) rfl rfl (by simp only [List.length_cons, List.length_nil, List.length_append]; omega) rfl rfl ?_
    (repeat (first | refine zI ?_ | refine zL ?_ | refine zC ?_ | refine yaf ?_ | refine yae ?_ | refine zR ?_ | refine zD ?_ | refine zK ?_ | refine zB ?_ | refine zA ?_ | refine zS ?_ | refine zU ?_ | refine zV ?_ | refine zF ?_ | with_reducible refine yab ?_ | with_reducible refine yad ?_ | refine yaa ?_ | refine yac ?_ | refine yag ?_ | refine zT ?_ | refine zE ?_ | refine zX ?_))
    refine yau ?_; refine ⟨_, rfl, ?_⟩
    exact yem (by simp [yax, h19, brT])
  have h19 : t.1 ≠ 19 := by simpa using h19
  obtain ⟨hw1, hw2⟩ := agg_w (op := t.1) (by omega)
  (repeat (first | refine zI ?_ | refine zL ?_ | refine zC ?_ | refine yaf ?_ | refine yae ?_ | refine zR ?_ | refine zD ?_ | refine zK ?_ | refine zB ?_ | refine zA ?_ | refine zS ?_ | refine zU ?_ | refine zV ?_ | refine zF ?_ | with_reducible refine yab ?_ | with_reducible refine yad ?_ | refine yaa ?_ | refine yac ?_ | refine yag ?_ | refine zT ?_ | refine zE ?_ | refine zX ?_ | refine yal rfl rfl (yfb t.1) rfl rfl ?_))
  refine yaq rfl (fun _ => ?_) (fun h9 => absurd h9 (by simp [ht]))
  (repeat (first | refine zI ?_ | refine zL ?_ | refine zC ?_ | refine yaf ?_ | refine yae ?_ | refine zR ?_ | refine zD ?_ | refine zK ?_ | refine zB ?_ | refine zA ?_ | refine zS ?_ | refine zU ?_ | refine zV ?_ | refine zF ?_ | with_reducible refine yab ?_ | with_reducible refine yad ?_ | refine yaa ?_ | refine yac ?_ | refine yag ?_ | refine zT ?_ | refine zE ?_ | refine zX ?_))
  refine ybd tok rfl rfl rfl (by omega) (rows := ykc.map fun w => [yff (ba w)]) (yds hw1) rfl rfl ?_
  (repeat (first | refine zI ?_ | refine zL ?_ | refine zC ?_ | refine yaf ?_ | refine yae ?_ | refine zR ?_ | refine zD ?_ | refine zK ?_ | refine zB ?_ | refine zA ?_ | refine zS ?_ | refine zU ?_ | refine zV ?_ | refine zF ?_ | with_reducible refine yab ?_ | with_reducible refine yad ?_ | refine yaa ?_ | refine yac ?_ | refine yag ?_ | refine zT ?_ | refine zE ?_ | refine zX ?_))
  refine ydi (a := ykv t.1) rfl rfl (by simp only [List.length_cons, List.length_nil, List.length_append]; omega) rfl rfl ?_
  (repeat (first | refine zI ?_ | refine zL ?_ | refine zC ?_ | refine yaf ?_ | refine yae ?_ | refine zR ?_ | refine zD ?_ | refine zK ?_ | refine zB ?_ | refine zA ?_ | refine zS ?_ | refine zU ?_ | refine zV ?_ | refine zF ?_ | with_reducible refine yab ?_ | with_reducible refine yad ?_ | refine yaa ?_ | refine yac ?_ | refine yag ?_ | refine zT ?_ | refine zE ?_ | refine zX ?_))
  refine yau ?_; refine ⟨_, rfl, ?_⟩
  exact yem (by simp [yax, h18, h19])
theorem full_bi {t : Tm} {a b : Ex} (hes : es.length ≤ 1000) (hn : ∀ w ∈ names, w.length ≤ 24) (ht : ar t.1 = 2) (hEa : a.ok) (hEb : b.ok) (hab : ∀ x ∈ (Ex.bi t a b).fl, yep names.length x = true) (iha : yjm es names a) (ihb : yjm es names b) : yjm es names (.bi t a b) := by
  intro k hat
  have hk := hat.head rfl
  have hbd := hat.bound
  have hfl : (Ex.bi t a b).fl.length = a.fl.length + b.fl.length + 1 := by simp [Ex.fl]
  obtain ⟨hata, hatb⟩ := AtE.tail (x := a.fl) (y := b.fl) (show (t :: (a.fl ++ b.fl)) <+: es.drop k from hat)
  have ha : ∀ x ∈ a.fl, yep names.length x = true := fun x hx => hab x (by simp [Ex.fl, hx])
  have hb : ∀ x ∈ b.fl, yep names.length x = true := fun x hx => hab x (by simp [Ex.fl, hx])
  have hop := ar_bi ht
  obtain ⟨r, hr⟩ := hat
  have h1 := rend_con es k (.bi t a b) r hes (by omega) hr.symm ⟨ht, hEa, hEb⟩
  obtain ⟨hw1, hw2⟩ := bin_w (op := t.1) hop
  have hbla := blenT hn hEa ha
  have hblb := blenT hn hEb hb
  have co := roperand_con es k (.bi t a b) [a] t r (b.fl ++ r) hes hr.symm ⟨ht, hEa, hEb⟩ (by rw [← hr]; simp [flX, Ex.fl]) (fun X hX => by simp at hX; rw [hX]; exact hEa) (by rw [ht]; simp)
  rw [show (flX [a]).length = a.fl.length by simp [flX]] at co
  have ca := iha (k + 1) hata
  have cb := ihb (k + 1 + a.fl.length) hatb
  refine ybt Tryz.func18 rfl rfl Tryz.ntmps18 Tryz.results18 rfl rfl ?_
  (repeat (first | refine zI ?_ | refine zL ?_ | refine zC ?_ | refine yaf ?_ | refine yae ?_ | refine zR ?_ | refine zD ?_ | refine zK ?_ | refine zB ?_ | refine zA ?_ | refine zS ?_ | refine zU ?_ | refine zV ?_ | refine zF ?_ | with_reducible refine yab ?_ | with_reducible refine yad ?_ | refine yaa ?_ | refine yac ?_ | refine yag ?_ | refine zT ?_ | refine zE ?_ | refine zX ?_ | refine ybd tok rfl rfl rfl (by omega) (ycb hk) rfl rfl ?_ | refine yal rfl rfl h1 rfl rfl ?_))
  refine L_slslice tok rfl rfl rfl rfl (by show (0 : Int) ≤ (k : Int); omega) (by show (k : Int) ≤ ((k + (Ex.bi t a b).fl.length : Nat) : Int); omega) (by show ((k + (Ex.bi t a b).fl.length : Nat) : Int) ≤ ((List.map _ es).length : Int); rw [List.length_map]; omega) rfl rfl ?_
  refine L_same 23 (y := .sl 2 (List.map ydg (Ex.bi t a b).fl)) rfl ?_ ?_
  · show AV.sl 2 (List.drop ((k : Nat) : Int).toNat (List.take (((k + (Ex.bi t a b).fl.length : Nat) : Int)).toNat (es.map _))) = _
    rw [Int.toNat_natCast, Int.toNat_natCast, part_map hr.symm rfl]
  refine L_appendNil tok rfl rfl rfl (pure_terms _) ⟨by rw [List.length_map]; omega, by rw [List.length_map]; omega⟩ rfl rfl rfl rfl rfl ?_
  (repeat (first | refine zI ?_ | refine zL ?_ | refine zC ?_ | refine zK ?_ | refine zB ?_ | refine zA ?_ | refine zS ?_ | refine zU ?_ | refine zV ?_ | refine zF ?_ | refine zX ?_ | refine yaf ?_))
  (repeat (first | with_reducible refine yad ?_ | with_reducible refine yab ?_ | refine yac ?_ | refine yae ?_ | refine yaa ?_))
  refine A_freeze 8 (List.map ydg (Ex.bi t a b).fl) rfl rfl rfl (rows_two _) rfl rfl rfl ?_
  (repeat (first | refine zI ?_ | refine zL ?_ | refine zC ?_ | refine yaf ?_ | refine yae ?_ | refine zR ?_ | refine zD ?_ | refine zK ?_ | refine zB ?_ | refine zA ?_ | refine zS ?_ | refine zU ?_ | refine zV ?_ | refine zF ?_ | with_reducible refine yab ?_ | with_reducible refine yad ?_ | refine yaa ?_ | refine yac ?_ | refine yag ?_ | refine zT ?_ | refine zE ?_ | refine zX ?_ | refine yal rfl rfl (yfb t.1) rfl rfl ?_))
  refine yaq rfl (fun h9 => absurd h9 (by simp [ht])) (fun _ => ?_)
  (repeat (first | refine zI ?_ | refine zL ?_ | refine zC ?_ | refine yaf ?_ | refine yae ?_ | refine zR ?_ | refine zD ?_ | refine zK ?_ | refine zB ?_ | refine zA ?_ | refine zS ?_ | refine zU ?_ | refine zV ?_ | refine zF ?_ | with_reducible refine yab ?_ | with_reducible refine yad ?_ | refine yaa ?_ | refine yac ?_ | refine yag ?_ | refine zT ?_ | refine zE ?_ | refine zX ?_ | refine yal rfl rfl ca rfl rfl ?_))
  refine ydi (a := [40]) rfl rfl (by simp only [List.length_cons, List.length_nil]; omega) rfl rfl ?_
  refine ydi (b := [41]) rfl rfl (by simp only [List.length_cons, List.length_nil, List.length_append]; omega) rfl rfl ?_
  (repeat (first | refine zI ?_ | refine zL ?_ | refine zC ?_ | refine yaf ?_ | refine yae ?_ | refine zR ?_ | refine zD ?_ | refine zK ?_ | refine zB ?_ | refine zA ?_ | refine zS ?_ | refine zU ?_ | refine zV ?_ | refine zF ?_ | with_reducible refine yab ?_ | with_reducible refine yad ?_ | refine yaa ?_ | refine yac ?_ | refine yag ?_ | refine zT ?_ | refine zE ?_ | refine zX ?_))
  iterate 2 (refine yaq rfl (fun h9 => absurd h9 (by simp; omega)) (fun _ => ?_); (repeat (first | refine zI ?_ | refine zL ?_ | refine zC ?_ | refine yaf ?_ | refine yae ?_ | refine zR ?_ | refine zD ?_ | refine zK ?_ | refine zB ?_ | refine zA ?_ | refine zS ?_ | refine zU ?_ | refine zV ?_ | refine zF ?_ | with_reducible refine yab ?_ | with_reducible refine yad ?_ | refine yaa ?_ | refine yac ?_ | refine yag ?_ | refine zT ?_ | refine zE ?_ | refine zX ?_)))
  (repeat (first | refine zI ?_ | refine zL ?_ | refine zC ?_ | refine yaf ?_ | refine yae ?_ | refine zR ?_ | refine zD ?_ | refine zK ?_ | refine zB ?_ | refine zA ?_ | refine zS ?_ | refine zU ?_ | refine zV ?_ | refine zF ?_ | with_reducible refine yab ?_ | with_reducible refine yad ?_ | refine yaa ?_ | refine yac ?_ | refine yag ?_ | refine zT ?_ | refine zE ?_ | refine zX ?_ | refine yal rfl rfl (yfb t.1) rfl rfl ?_))
  refine yaq rfl (fun h9 => absurd h9 (by simp [ht])) (fun _ => ?_)
  (repeat (first | refine zI ?_ | refine zL ?_ | refine zC ?_ | refine yaf ?_ | refine yae ?_ | refine zR ?_ | refine zD ?_ | refine zK ?_ | refine zB ?_ | refine zA ?_ | refine zS ?_ | refine zU ?_ | refine zV ?_ | refine zF ?_ | with_reducible refine yab ?_ | with_reducible refine yad ?_ | refine yaa ?_ | refine yac ?_ | refine yag ?_ | refine zT ?_ | refine zE ?_ | refine zX ?_ | refine yal rfl rfl co rfl rfl ?_ | refine yal rfl rfl cb rfl rfl ?_))
  refine ydi (a := [40]) rfl rfl (by simp only [List.length_cons, List.length_nil]; omega) rfl rfl ?_
  refine ydi (b := [41]) rfl rfl (by simp only [List.length_cons, List.length_nil, List.length_append]; omega) rfl rfl ?_
  (repeat (first | refine zI ?_ | refine zL ?_ | refine zC ?_ | refine yaf ?_ | refine yae ?_ | refine zR ?_ | refine zD ?_ | refine zK ?_ | refine zB ?_ | refine zA ?_ | refine zS ?_ | refine zU ?_ | refine zV ?_ | refine zF ?_ | with_reducible refine yab ?_ | with_reducible refine yad ?_ | refine yaa ?_ | refine yac ?_ | refine yag ?_ | refine zT ?_ | refine zE ?_ | refine zX ?_))
  refine yaq rfl (fun h9 => absurd h9 (by simp; omega)) (fun _ => ?_)
  (repeat (first | refine zI ?_ | refine zL ?_ | refine zC ?_ | refine yaf ?_ | refine yae ?_ | refine zR ?_ | refine zD ?_ | refine zK ?_ | refine zB ?_ | refine zA ?_ | refine zS ?_ | refine zU ?_ | refine zV ?_ | refine zF ?_ | with_reducible refine yab ?_ | with_reducible refine yad ?_ | refine yaa ?_ | refine yac ?_ | refine yag ?_ | refine zT ?_ | refine zE ?_ | refine zX ?_))
  refine ydi (b := [32]) rfl rfl (by simp only [List.length_cons, List.length_nil, List.length_append]; omega) rfl rfl ?_
  (repeat (first | refine zI ?_ | refine zL ?_ | refine zC ?_ | refine yaf ?_ | refine yae ?_ | refine zR ?_ | refine zD ?_ | refine zK ?_ | refine zB ?_ | refine zA ?_ | refine zS ?_ | refine zU ?_ | refine zV ?_ | refine zF ?_ | with_reducible refine yab ?_ | with_reducible refine yad ?_ | refine yaa ?_ | refine yac ?_ | refine yag ?_ | refine zT ?_ | refine zE ?_ | refine zX ?_))
  refine ybd tok rfl rfl rfl (by omega) (rows := ykk.map fun w => [yff (ba w)]) (yds hw1) rfl rfl ?_
  (repeat (first | refine zI ?_ | refine zL ?_ | refine zC ?_ | refine yaf ?_ | refine yae ?_ | refine zR ?_ | refine zD ?_ | refine zK ?_ | refine zB ?_ | refine zA ?_ | refine zS ?_ | refine zU ?_ | refine zV ?_ | refine zF ?_ | with_reducible refine yab ?_ | with_reducible refine yad ?_ | refine yaa ?_ | refine yac ?_ | refine yag ?_ | refine zT ?_ | refine zE ?_ | refine zX ?_))
  refine ydi (b := ykw t.1) rfl rfl (by simp only [List.length_cons, List.length_nil, List.length_append]; omega) rfl rfl ?_
  refine ydi (b := [32]) rfl rfl (by simp only [List.length_cons, List.length_nil, List.length_append]; omega) rfl rfl ?_
  (repeat (first | refine zI ?_ | refine zL ?_ | refine zC ?_ | refine yaf ?_ | refine yae ?_ | refine zR ?_ | refine zD ?_ | refine zK ?_ | refine zB ?_ | refine zA ?_ | refine zS ?_ | refine zU ?_ | refine zV ?_ | refine zF ?_ | with_reducible refine yab ?_ | with_reducible refine yad ?_ | refine yaa ?_ | refine yac ?_ | refine yag ?_ | refine zT ?_ | refine zE ?_ | refine zX ?_ | refine ydi rfl rfl (by simp only [List.length_cons, List.length_nil, List.length_append]; omega) rfl rfl ?_))
  refine yau ?_; refine ⟨_, rfl, ?_⟩
  exact yem (by simp [yax, brT])
theorem full_tr {t : Tm} {a b c : Ex} (hes : es.length ≤ 1000) (hn : ∀ w ∈ names, w.length ≤ 24) (ht : ar t.1 = 3) (hEa : a.ok) (hEb : b.ok) (hEc : c.ok) (hab : ∀ x ∈ (Ex.tr t a b c).fl, yep names.length x = true) (iha : yjm es names a) (ihb : yjm es names b) (ihc : yjm es names c) : yjm es names (.tr t a b c) := by
  intro k hat
  have hk := hat.head rfl
  have hbd := hat.bound
  have hfl : (Ex.tr t a b c).fl.length = a.fl.length + b.fl.length + c.fl.length + 1 := by simp [Ex.fl]; omega
  obtain ⟨hata, hatbc⟩ := AtE.tail (x := a.fl) (y := b.fl ++ c.fl) (show (t :: (a.fl ++ (b.fl ++ c.fl))) <+: es.drop k from hat)
  have hatb : AtE es (k + 1 + a.fl.length) b := (List.prefix_append b.fl c.fl).trans hatbc
  have hatc : AtE es (k + 1 + a.fl.length + b.fl.length) c := by
    obtain ⟨q, hq⟩ := hatbc
    refine ⟨q, ?_⟩
    rw [← List.drop_drop, ← hq]
    simp
  have ha : ∀ x ∈ a.fl, yep names.length x = true := fun x hx => hab x (by simp [Ex.fl, hx])
  have hb : ∀ x ∈ b.fl, yep names.length x = true := fun x hx => hab x (by simp [Ex.fl, hx])
  have hc : ∀ x ∈ c.fl, yep names.length x = true := fun x hx => hab x (by simp [Ex.fl, hx])
  have hop := ar_tr ht
  obtain ⟨r, hr⟩ := hat
  have h1 := rend_con es k (.tr t a b c) r hes (by omega) hr.symm ⟨ht, hEa, hEb, hEc⟩
  have hbla := blenT hn hEa ha
  have hblb := blenT hn hEb hb
  have hblc := blenT hn hEc hc
  have co := roperand_con es k (.tr t a b c) [a] t r (b.fl ++ (c.fl ++ r)) hes hr.symm ⟨ht, hEa, hEb, hEc⟩ (by rw [← hr]; simp [flX, Ex.fl]) (fun X hX => by simp at hX; rw [hX]; exact hEa) (by rw [ht]; simp)
  rw [show (flX [a]).length = a.fl.length by simp [flX]] at co
  have co2 := roperand_con es k (.tr t a b c) [a, b] t r (c.fl ++ r) hes hr.symm ⟨ht, hEa, hEb, hEc⟩ (by rw [← hr]; simp [flX, Ex.fl]) (fun X hX => by simp at hX; rcases hX with rfl | rfl <;> assumption) (by rw [ht]; simp)
  rw [show k + 1 + (flX [a, b]).length = k + 1 + a.fl.length + b.fl.length by simp [flX]; omega] at co2
  have ca := iha (k + 1) hata
  have cb := ihb (k + 1 + a.fl.length) hatb
  have cc := ihc (k + 1 + a.fl.length + b.fl.length) hatc
  refine ybt Tryz.func18 rfl rfl Tryz.ntmps18 Tryz.results18 rfl rfl ?_
  (repeat (first | refine zI ?_ | refine zL ?_ | refine zC ?_ | refine yaf ?_ | refine yae ?_ | refine zR ?_ | refine zD ?_ | refine zK ?_ | refine zB ?_ | refine zA ?_ | refine zS ?_ | refine zU ?_ | refine zV ?_ | refine zF ?_ | with_reducible refine yab ?_ | with_reducible refine yad ?_ | refine yaa ?_ | refine yac ?_ | refine yag ?_ | refine zT ?_ | refine zE ?_ | refine zX ?_ | refine ybd tok rfl rfl rfl (by omega) (ycb hk) rfl rfl ?_ | refine yal rfl rfl h1 rfl rfl ?_))
  refine L_slslice tok rfl rfl rfl rfl (by show (0 : Int) ≤ (k : Int); omega) (by show (k : Int) ≤ ((k + (Ex.tr t a b c).fl.length : Nat) : Int); omega) (by show ((k + (Ex.tr t a b c).fl.length : Nat) : Int) ≤ ((List.map _ es).length : Int); rw [List.length_map]; omega) rfl rfl ?_
  refine L_same 23 (y := .sl 2 (List.map ydg (Ex.tr t a b c).fl)) rfl ?_ ?_
  · show AV.sl 2 (List.drop ((k : Nat) : Int).toNat (List.take (((k + (Ex.tr t a b c).fl.length : Nat) : Int)).toNat (es.map _))) = _
    rw [Int.toNat_natCast, Int.toNat_natCast, part_map hr.symm rfl]
  refine L_appendNil tok rfl rfl rfl (pure_terms _) ⟨by rw [List.length_map]; omega, by rw [List.length_map]; omega⟩ rfl rfl rfl rfl rfl ?_
  (repeat (first | refine zI ?_ | refine zL ?_ | refine zC ?_ | refine zK ?_ | refine zB ?_ | refine zA ?_ | refine zS ?_ | refine zU ?_ | refine zV ?_ | refine zF ?_ | refine zX ?_ | refine yaf ?_))
  (repeat (first | with_reducible refine yad ?_ | with_reducible refine yab ?_ | refine yac ?_ | refine yae ?_ | refine yaa ?_))
  refine A_freeze 8 (List.map ydg (Ex.tr t a b c).fl) rfl rfl rfl (rows_two _) rfl rfl rfl ?_
  (repeat (first | refine zI ?_ | refine zL ?_ | refine zC ?_ | refine yaf ?_ | refine yae ?_ | refine zR ?_ | refine zD ?_ | refine zK ?_ | refine zB ?_ | refine zA ?_ | refine zS ?_ | refine zU ?_ | refine zV ?_ | refine zF ?_ | with_reducible refine yab ?_ | with_reducible refine yad ?_ | refine yaa ?_ | refine yac ?_ | refine yag ?_ | refine zT ?_ | refine zE ?_ | refine zX ?_ | refine yal rfl rfl (yfb t.1) rfl rfl ?_))
  refine yaq rfl (fun h9 => absurd h9 (by simp [ht])) (fun _ => ?_)
  (repeat (first | refine zI ?_ | refine zL ?_ | refine zC ?_ | refine yaf ?_ | refine yae ?_ | refine zR ?_ | refine zD ?_ | refine zK ?_ | refine zB ?_ | refine zA ?_ | refine zS ?_ | refine zU ?_ | refine zV ?_ | refine zF ?_ | with_reducible refine yab ?_ | with_reducible refine yad ?_ | refine yaa ?_ | refine yac ?_ | refine yag ?_ | refine zT ?_ | refine zE ?_ | refine zX ?_ | refine yal rfl rfl ca rfl rfl ?_))
  refine ydi (a := [40]) rfl rfl (by simp only [List.length_cons, List.length_nil]; omega) rfl rfl ?_
  refine ydi (b := [41]) rfl rfl (by simp only [List.length_cons, List.length_nil, List.length_append]; omega) rfl rfl ?_
  (repeat (first | refine zI ?_ | refine zL ?_ | refine zC ?_ | refine yaf ?_ | refine yae ?_ | refine zR ?_ | refine zD ?_ | refine zK ?_ | refine zB ?_ | refine zA ?_ | refine zS ?_ | refine zU ?_ | refine zV ?_ | refine zF ?_ | with_reducible refine yab ?_ | with_reducible refine yad ?_ | refine yaa ?_ | refine yac ?_ | refine yag ?_ | refine zT ?_ | refine zE ?_ | refine zX ?_))
  iterate 2 (refine yaq rfl (fun h9 => absurd h9 (by simp; omega)) (fun _ => ?_); (repeat (first | refine zI ?_ | refine zL ?_ | refine zC ?_ | refine yaf ?_ | refine yae ?_ | refine zR ?_ | refine zD ?_ | refine zK ?_ | refine zB ?_ | refine zA ?_ | refine zS ?_ | refine zU ?_ | refine zV ?_ | refine zF ?_ | with_reducible refine yab ?_ | with_reducible refine yad ?_ | refine yaa ?_ | refine yac ?_ | refine yag ?_ | refine zT ?_ | refine zE ?_ | refine zX ?_)))
  (repeat (first | refine zI ?_ | refine zL ?_ | refine zC ?_ | refine yaf ?_ | refine yae ?_ | refine zR ?_ | refine zD ?_ | refine zK ?_ | refine zB ?_ | refine zA ?_ | refine zS ?_ | refine zU ?_ | refine zV ?_ | refine zF ?_ | with_reducible refine yab ?_ | with_reducible refine yad ?_ | refine yaa ?_ | refine yac ?_ | refine yag ?_ | refine zT ?_ | refine zE ?_ | refine zX ?_ | refine yal rfl rfl (yfb t.1) rfl rfl ?_))
  refine yaq rfl (fun h9 => absurd h9 (by simp [ht])) (fun _ => ?_)
  (repeat (first | refine zI ?_ | refine zL ?_ | refine zC ?_ | refine yaf ?_ | refine yae ?_ | refine zR ?_ | refine zD ?_ | refine zK ?_ | refine zB ?_ | refine zA ?_ | refine zS ?_ | refine zU ?_ | refine zV ?_ | refine zF ?_ | with_reducible refine yab ?_ | with_reducible refine yad ?_ | refine yaa ?_ | refine yac ?_ | refine yag ?_ | refine zT ?_ | refine zE ?_ | refine zX ?_ | refine yal rfl rfl co rfl rfl ?_ | refine yal rfl rfl cb rfl rfl ?_))
  refine ydi (a := [40]) rfl rfl (by simp only [List.length_cons, List.length_nil]; omega) rfl rfl ?_
  refine ydi (b := [41]) rfl rfl (by simp only [List.length_cons, List.length_nil, List.length_append]; omega) rfl rfl ?_
  (repeat (first | refine zI ?_ | refine zL ?_ | refine zC ?_ | refine yaf ?_ | refine yae ?_ | refine zR ?_ | refine zD ?_ | refine zK ?_ | refine zB ?_ | refine zA ?_ | refine zS ?_ | refine zU ?_ | refine zV ?_ | refine zF ?_ | with_reducible refine yab ?_ | with_reducible refine yad ?_ | refine yaa ?_ | refine yac ?_ | refine yag ?_ | refine zT ?_ | refine zE ?_ | refine zX ?_))
  refine yaq rfl (fun _ => ?_) (fun h9 => absurd h9 (by simp; omega))
  (repeat (first | refine zI ?_ | refine zL ?_ | refine zC ?_ | refine yaf ?_ | refine yae ?_ | refine zR ?_ | refine zD ?_ | refine zK ?_ | refine zB ?_ | refine zA ?_ | refine zS ?_ | refine zU ?_ | refine zV ?_ | refine zF ?_ | with_reducible refine yab ?_ | with_reducible refine yad ?_ | refine yaa ?_ | refine yac ?_ | refine yag ?_ | refine zT ?_ | refine zE ?_ | refine zX ?_))
  refine ydi (b := [32, 63, 32]) rfl rfl (by simp only [List.length_cons, List.length_nil, List.length_append]; omega) rfl rfl ?_
  (repeat (first | refine zI ?_ | refine zL ?_ | refine zC ?_ | refine yaf ?_ | refine yae ?_ | refine zR ?_ | refine zD ?_ | refine zK ?_ | refine zB ?_ | refine zA ?_ | refine zS ?_ | refine zU ?_ | refine zV ?_ | refine zF ?_ | with_reducible refine yab ?_ | with_reducible refine yad ?_ | refine yaa ?_ | refine yac ?_ | refine yag ?_ | refine zT ?_ | refine zE ?_ | refine zX ?_))
  refine ydi rfl rfl (by simp only [List.length_cons, List.length_nil, List.length_append]; omega) rfl rfl ?_
  refine ydi (b := [32, 58, 32, 40]) rfl rfl (by simp only [List.length_cons, List.length_nil, List.length_append]; omega) rfl rfl ?_
  (repeat (first | refine zI ?_ | refine zL ?_ | refine zC ?_ | refine yaf ?_ | refine yae ?_ | refine zR ?_ | refine zD ?_ | refine zK ?_ | refine zB ?_ | refine zA ?_ | refine zS ?_ | refine zU ?_ | refine zV ?_ | refine zF ?_ | with_reducible refine yab ?_ | with_reducible refine yad ?_ | refine yaa ?_ | refine yac ?_ | refine yag ?_ | refine zT ?_ | refine zE ?_ | refine zX ?_ | refine yal rfl rfl co2 rfl rfl ?_ | refine yal rfl rfl cc rfl rfl ?_))
  refine ydi rfl rfl (by simp only [List.length_cons, List.length_nil, List.length_append]; omega) rfl rfl ?_
  refine ydi (b := [41]) rfl rfl (by simp only [List.length_cons, List.length_nil, List.length_append]; omega) rfl rfl ?_
  (repeat (first | refine zI ?_ | refine zL ?_ | refine zC ?_ | refine yaf ?_ | refine yae ?_ | refine zR ?_ | refine zD ?_ | refine zK ?_ | refine zB ?_ | refine zA ?_ | refine zS ?_ | refine zU ?_ | refine zV ?_ | refine zF ?_ | with_reducible refine yab ?_ | with_reducible refine yad ?_ | refine yaa ?_ | refine yac ?_ | refine yag ?_ | refine zT ?_ | refine zE ?_ | refine zX ?_))
  refine yau ?_; refine ⟨_, rfl, ?_⟩
  exact yem (by simp [yax, brT])
theorem full_all (hes : es.length ≤ 1000) (hn : ∀ w ∈ names, w.length ≤ 24) : ∀ (E : Ex), E.ok → (∀ x ∈ E.fl, yep names.length x = true) → yjm es names E
  | .lf t, hE, ha => full_lf hes hn hE (ha t (by simp [Ex.fl]))
  | .un t a, hE, ha => full_un hes hn hE.1 hE.2 (fun x hx => ha x (by simp [Ex.fl, hx])) (full_all hes hn a hE.2 fun x hx => ha x (by simp [Ex.fl, hx]))
  | .bi t a b, hE, ha => full_bi hes hn hE.1 hE.2.1 hE.2.2 ha (full_all hes hn a hE.2.1 fun x hx => ha x (by simp [Ex.fl, hx])) (full_all hes hn b hE.2.2 fun x hx => ha x (by simp [Ex.fl, hx]))
  | .tr t a b c, hE, ha => full_tr hes hn hE.1 hE.2.1 hE.2.2.1 hE.2.2.2 ha (full_all hes hn a hE.2.1 fun x hx => ha x (by simp [Ex.fl, hx])) (full_all hes hn b hE.2.2.1 fun x hx => ha x (by simp [Ex.fl, hx])) (full_all hes hn c hE.2.2.2 fun x hx => ha x (by simp [Ex.fl, hx]))
end
theorem exprBracketsEverything_con (e : List Tm) (names : List Bs) : Con Tryz.prog 7 [ybc e, ybe names] (yga true) := by
  refine ybt Tryz.func7 rfl rfl Tryz.ntmps7 Tryz.results7 rfl rfl ?_
  (repeat (first | refine zI ?_ | refine zL ?_ | refine zC ?_ | refine yaf ?_ | refine yae ?_ | refine zR ?_ | refine zD ?_ | refine zK ?_ | refine zB ?_ | refine zA ?_ | refine zS ?_ | refine zU ?_ | refine zV ?_ | refine zF ?_ | with_reducible refine yab ?_ | with_reducible refine yad ?_ | refine yaa ?_ | refine yac ?_ | refine yag ?_ | refine zT ?_ | refine zE ?_ | refine zX ?_ | refine yal rfl rfl (fair06_con e names) rfl rfl ?_))
  refine ych 15 rfl (fun h1 => ?_) (fun h1 => ?_)
  · (repeat (first | refine zI ?_ | refine zL ?_ | refine zC ?_ | refine yaf ?_ | refine yae ?_ | refine zR ?_ | refine zD ?_ | refine zK ?_ | refine zB ?_ | refine zA ?_ | refine zS ?_ | refine zU ?_ | refine zV ?_ | refine zF ?_ | with_reducible refine yab ?_ | with_reducible refine yad ?_ | refine yaa ?_ | refine yac ?_ | refine yag ?_ | refine zT ?_ | refine zE ?_ | refine zX ?_ | refine yal rfl rfl awake06_con rfl rfl ?_))
    refine yau ?_; refine ⟨_, rfl, ?_⟩
    exact ybu rfl
  obtain ⟨he, ⟨l1, l2⟩, hg, hv⟩ := fairE_spec (by simpa using h1)
  (repeat (first | refine zI ?_ | refine zL ?_ | refine zC ?_ | refine yaf ?_ | refine yae ?_ | refine zR ?_ | refine zD ?_ | refine zK ?_ | refine zB ?_ | refine zA ?_ | refine zS ?_ | refine zU ?_ | refine zV ?_ | refine zF ?_ | with_reducible refine yab ?_ | with_reducible refine yad ?_ | refine yaa ?_ | refine yac ?_ | refine yag ?_ | refine zT ?_ | refine zE ?_ | refine zX ?_))
  refine yaq rfl (fun h2 => ?_) (fun h2 => ?_)
  · (repeat (first | refine zI ?_ | refine zL ?_ | refine zC ?_ | refine yaf ?_ | refine yae ?_ | refine zR ?_ | refine zD ?_ | refine zK ?_ | refine zB ?_ | refine zA ?_ | refine zS ?_ | refine zU ?_ | refine zV ?_ | refine zF ?_ | with_reducible refine yab ?_ | with_reducible refine yad ?_ | refine yaa ?_ | refine yac ?_ | refine yag ?_ | refine zT ?_ | refine zE ?_ | refine zX ?_ | refine yal rfl rfl awake06_con rfl rfl ?_))
    refine yau ?_; refine ⟨_, rfl, ?_⟩
    exact ybu rfl
  obtain ⟨E, hp, hE, hfl, hlen, hargs⟩ := valid_spec hv
  have hnl := good_len hg
  have hw := full_all (es := e) (names := names) (by omega) hnl E hE (hfl ▸ hargs) 0 (by rw [AtE, hfl]; exact List.prefix_refl _)
  have hft : ∀ al, ydn al names e = yax al names E := fun al => by rw [ydn, hp]
  rw [← hft] at hw
  have hf := fmt_good he l1 l2 hg hv
  have hq : Con Tryz.prog 11 [yff (ba (ydn true names e)), ybe names] (parseA (e, 0, 0)) := parse_good l1 l2 hg hv true 0 (by omega)
  have hsh : (ydn false names e).length ≤ (ydn true names e).length := by rw [hft, hft]; exact body_short names E
  (repeat (first | refine zI ?_ | refine zL ?_ | refine zC ?_ | refine yaf ?_ | refine yae ?_ | refine zR ?_ | refine zD ?_ | refine zK ?_ | refine zB ?_ | refine zA ?_ | refine zS ?_ | refine zU ?_ | refine zV ?_ | refine zF ?_ | with_reducible refine yab ?_ | with_reducible refine yad ?_ | refine yaa ?_ | refine yac ?_ | refine yag ?_ | refine zT ?_ | refine zE ?_ | refine zX ?_ | refine yal rfl rfl hw rfl rfl ?_ | refine yal rfl rfl hq rfl rfl ?_ | refine yal rfl rfl hf rfl rfl ?_ | refine yal rfl rfl awake06_con rfl rfl ?_ | refine yal rfl rfl (same_con _ _ (by show e.length ≤ 1000000; omega)) rfl rfl ?_))
  refine L_true 51 rfl (by simp) ?_
  (repeat (first | refine zI ?_ | refine zL ?_ | refine zC ?_ | refine yaf ?_ | refine yae ?_ | refine zR ?_ | refine zD ?_ | refine zK ?_ | refine zB ?_ | refine zA ?_ | refine zS ?_ | refine zU ?_ | refine zV ?_ | refine zF ?_ | with_reducible refine yab ?_ | with_reducible refine yad ?_ | refine yaa ?_ | refine yac ?_ | refine yag ?_ | refine zT ?_ | refine zE ?_ | refine zX ?_))
  refine yau ?_; refine ⟨_, rfl, ?_⟩
  exact ybu (by simp [yaw]; omega)
theorem walk_ExprBracketsEverything (v0 : Value) (z0 : List Tm) (v1 : Value) (z1 : List Bs) (w : World) (h0 : yfp w v0 z0 ∧ ∀ t ∈ z0, TermIn t) (h1 : NamesOk w v1 z1) (hG : ykj w) :
    Calls Tryz.prog 7 #[v0, v1] w fun e w' => e = .returned (.bool true) ∧ Below w.heap.size w w' :=
  calls_of_con (exprBracketsEverything_con z0 z1) hG (okW_lt w) (relAll_cons (terms_relE h0.1) (relAll_cons (names_rel h1) relAll_nil))
end Go.Proofs.YtcpgpiabeimefaaGreatDoor
