/- Part 10 of the texts under TopInformationTravelsOneLink: joined, with what it needs alone. -/
import Derived.Test.YtgpbgfpjlhoicaaGreatDoorIL6
import Derived.Test.YtgpbgfpjlhoicaaGreatDoorIL7
import Derived.Test.YtgpbgfpjlhoicaaGreatDoorIL8
import Derived.Test.YtgpbgfpjlhoicaaGreatDoorIL9
set_option linter.unusedVariables false
namespace Go.Proofs.YtgpbgfpjlhoicaaGreatDoor
section
open Go.RowKit
theorem yjd {α : Type} {f : α → AV} : ∀ l : List α, (l.map fun x => [f x]).flatten = l.map f
 | [] => rfl
 | a :: l => by simp [yjd l]
theorem A_freezeV {P : Program} {N : Nat} {t : List (Nat × AV)} {c : Code} {Q : Exit → SS → Prop} {t' : List (Nat × AV)} {h0 h' : List (Nat × Option LObj)} {α : Type} {f : α → AV} {l : List α} (d : Nat) {id n : Nat} (hd : look t d = some (.ls id 1 n)) (hn : n = l.length)
  (ht : yrg id t = some t') (hh : ypf id h0 = some h') (k : A P N c Q (S ((d, .sl 1 (l.map fun x => [f x])) :: t') ((id, none) :: h'))) : A P N c Q (S t ((id, some (.vec (l.map f))) :: h0)) := by
 subst hn
 refine ziy (h' := (id, some (.vec (l.map f))) :: h') d (l.map fun x => [f x]) hd yah (by simp) (by intro r hr; obtain ⟨z, _, rfl⟩ := List.mem_map.1 hr; rfl) (yjd l) ht ?_ ?_
 ·simp only [ypf, hh]; rfl
 ·rw [show S ((d, AV.sl 1 (l.map fun x => [f x])) :: t') ((id, none) :: (id, some (LObj.vec (l.map f))) :: h') = S ((d, AV.sl 1 (l.map fun x => [f x])) :: t') ((id, none) :: h') by unfold S; rw [yhw]]
  exact k
theorem Frz.aggL {h : Nat → Option LObj} {xs ys : List AV} (hl : xs.length = ys.length) (hc : ys.all ydx = true) (hf : ∀ (i : Nat) (x y : AV), xs[i]? = some x → ys[i]? = some y → Frz h x y) : Frz h (.agg xs) (.agg ys) := by
 intro B ok0 lv w u hi hr
 cases hr with
 | agg vs hvl _ hrr =>
  refine .agg vs (hvl.trans hl) (fun c hcm => List.all_eq_true.1 hc c hcm) fun i c v hcc hv => ?_
  obtain ⟨x, hx⟩ : ∃ x, xs[i]? = some x := ⟨_, List.getElem?_eq_getElem (by have := (List.getElem?_eq_some_iff.1 hcc).1; omega)⟩
  exact hf i x c hx hcc B ok0 lv w v hi (hrr i x v hx hv)
end
set_option maxRecDepth 100000
set_option maxHeartbeats 8000000
section
open Go.RowKit
theorem range_snoc {f : Nat → Int} (j : Nat) : (List.range (j + 1)).map f = (List.range j).map f ++ [f j] := by rw [List.range_succ, List.map_append]; rfl
theorem yns {p : ProgD} {g : GraphD} {c : List (List Int)} {v : Nat} {ls : List Lk} {e : List Tm} {n : Int} (W : WalkOk p g c v ls e n) {kinds : List Int} (hk : yfc kinds = true) : ∀ (E : Ex), E.ok → ∀ (k : Nat) (r : List Tm) (b : Bool) (port : Int), e.drop k = E.fl ++ r → ty kinds b E ≠ 0 → InV port → (b = true → 0 ≤ port ∧ port < ls.length) →
  Con Tryz.prog 229 [yin g, yfh c, i64 v, i64 port, ydp e, i64 k] (i64 ((⟨g, c, v⟩ : Scn).val port E))
 | .lf t, ho, k, r, b, port, hE, ht, hp, hb => by
  obtain ⟨hk1, hk2, hk3⟩ := yly (show e.drop k = t :: r from hE)
  have he := W.he
  have h17 := zwb ho
  have ha0 : ar t.1 = 0 := ho
  have hnear : 12 ≤ t.1 → 0 ≤ port ∧ port < ls.length := fun h12 => hb (by
   cases b with
   | true => rfl
   | false => exact absurd (by simp only [ty]; simp [zcv, h17.2]; omega) ht)
  have hm : t ∈ e := List.mem_of_getElem? hk1
  have har := ylk t.1
  rw [ha0] at har
  refine yan Tryz.func229 rfl rfl Tryz.ntmps229 Tryz.results229 rfl rfl ?_
  (repeat (first | refine zy ?_ | refine yac rfl rfl har rfl rfl ?_ | refine yac rfl rfl (rleaf_con g W.hg c v ls W.hls t port h17 hnear W.hc (fun hx => ⟨(zbs (W.ha t hm) hx).1, fun r hr => by have := (zbs (W.ha t hm) hx).2; have := W.hr r hr; omega⟩)) rfl rfl ?_))
  refine yaf ?_; refine ⟨_, rfl, ?_⟩
  exact Frz.pure
 | .un t a, ho, k, r, b, port, hE, ht, hp, hb => by
  obtain ⟨hk1, hk2, hk3⟩ := yly (show e.drop k = t :: (a.fl ++ r) from hE)
  have he := W.he
  have h17 := zwc ho.1
  have hka := ygz kinds hk b (.un t a) a ho (by simp [yoo]) ht
  have hll : ls.length ≤ 24 := (W.ok.links ls (List.mem_of_getElem? W.hls)).1
  have hdeg : (⟨g, c, v⟩ : Scn).deg = ls.length := by simp [Scn.deg, List.getD_eq_getElem?_getD, W.hls]
  have hls := W.hls
  have har := ylk t.1
  rw [ho.1] at har
  have hag := raggr_con t.1
  cases hagb : yhs t.1 with
  | false =>
   rw [hagb] at hag
   have hna := hagb
   have hop : t.1 = 18 ∨ t.1 = 19 := by
    have : ¬ (20 ≤ t.1 ∧ t.1 ≤ 29) := fun h => by rw [yne.2 h] at hna; cases hna
    omega
   have ih := yns W hk a ho.2 (k + 1) r b port hk2 (by simpa [hd, hna] using hka) hp hb
   rw [show ((k + 1 : Nat) : Int) = (k : Int) + 1 by omega] at ih
   have hin : InV ((⟨g, c, v⟩ : Scn).val port a) := ynz W.ok a (fun x hx => W.ha x (ydo hk2 x hx)) hp
   refine yan Tryz.func229 rfl rfl Tryz.ntmps229 Tryz.results229 rfl rfl ?_
   (repeat (first | refine zy ?_ | refine yac rfl rfl har rfl rfl ?_ | refine yac rfl rfl hag rfl rfl ?_ | refine yac rfl rfl ih rfl rfl ?_ | refine yac rfl rfl (run_con _ _ hop hin) rfl rfl ?_))
   refine yaf ?_; refine ⟨_, rfl, ?_⟩
   exact yae (by simp only [Scn.val]; rw [if_neg (by simp [hna])])
  | true =>
   rw [hagb] at hag
   have hka : ty kinds true a ≠ 0 := by simpa [hd, hagb] using hka
   let f : Nat → Int := fun j => (⟨g, c, v⟩ : Scn).val (j : Int) a
   have hin : ∀ j : Nat, j < ls.length → InV (f j) := fun j hj => ynz W.ok a (fun x hx => W.ha x (ydo hk2 x hx)) (zcy (n := 0) hll hj)
   have hop := yne.1 hagb
   refine yan Tryz.func229 rfl rfl Tryz.ntmps229 Tryz.results229 rfl rfl ?_
   (repeat (first | refine zy ?_ | refine yac rfl rfl har rfl rfl ?_ | refine yac rfl rfl hag rfl rfl ?_))
   refine A_own 14 14 1 rfl rfl rfl ?_
   refine yjr (α := Nat) (fun j => [(15, i64 j), (14, .ls 14 1 j), (13, i64 t.1), (6, .lp 6 0), (1, yfh c), (2, i64 v), (4, ydp e), (5, i64 k)]) (fun j => [(14, some (.vec (((List.range j).map f).map i64))), (6, some (.cells [yaq g.ids, ybd g.ports]))]) (fun j => ls.length - j) (fun j => j ≤ ls.length) 0 (by omega) (by exact zs) (ybq (yal rfl (yal rfl yay))) ?_
   intro j hj
   (try refine zy ?_)
   refine yag rfl (fun h1 => ?_) (fun h1 => ?_)
   ·simp at h1
    have ih := yns W hk a ho.2 (k + 1) r true (j : Int) hk2 hka (zcy (n := 0) hll h1) (fun _ => ⟨by omega, by omega⟩)
    rw [show ((k + 1 : Nat) : Int) = (k : Int) + 1 by omega] at ih
    (repeat (first | refine zy ?_ | refine yac rfl rfl ih rfl rfl ?_ | refine zbq tok rfl rfl rfl (by simp) rfl (by simp [ybf]) (by simp; omega) rfl rfl rfl rfl rfl ?_))
    refine zgl (j + 1) (by omega) (by omega) (by exact zs) (hsE ?_)
    rw [range_snoc, List.map_append]
    exact yhw
   ·simp at h1
    obtain rfl : j = ls.length := by omega
    (repeat (first | with_reducible refine ycc ?_ | with_reducible refine ybl ?_ | refine ybx ?_ | refine yco ?_))
    refine zt ?_
    refine A_freezeV (f := i64) (l := (List.range ls.length).map f) 14 rfl (by simp) rfl rfl ?_
    (repeat (first | refine zy ?_ | refine yac rfl rfl (rfold_con t.1 ((List.range ls.length).map f) hop (by simp; omega) (fun x hx => by obtain ⟨j, hj, rfl⟩ := List.mem_map.1 hx; exact hin j (List.mem_range.1 hj))) rfl rfl ?_))
    refine yaf ?_; refine ⟨_, rfl, ?_⟩
    exact yae (by simp only [Scn.val]; rw [if_pos hagb, hdeg])
 | .bi t a d, ho, k, r, b, port, hE, ht, hp, hb => by
  have hE2 : e.drop k = t :: (a.fl ++ (d.fl ++ r)) := by rw [hE]; simp [Ex.fl]
  obtain ⟨hk1, hk2, hk3⟩ := yly hE2
  have he := W.he
  have h17 := zwd ho.1
  have hna : yhs t.1 = false := by cases h : yhs t.1 with | false => rfl | true => have := yne.1 h; omega
  have hka := ygz kinds hk b (.bi t a d) a ho (by simp [yoo]) ht
  have hkd := ygz kinds hk b (.bi t a d) d ho (by simp [yoo]) ht
  simp only [hd, hna, Bool.or_false] at hka hkd
  have hk4 := yst hk2
  have ih1 := yns W hk a ho.2.1 (k + 1) _ b port hk2 hka hp hb
  have ih2 := yns W hk d ho.2.2 (k + 1 + a.fl.length) r b port hk4 hkd hp hb
  rw [show ((k + 1 : Nat) : Int) = (k : Int) + 1 by omega] at ih1
  have hin1 : InV ((⟨g, c, v⟩ : Scn).val port a) := ynz W.ok a (fun x hx => W.ha x (ydo hk2 x hx)) hp
  have hin2 : InV ((⟨g, c, v⟩ : Scn).val port d) := ynz W.ok d (fun x hx => W.ha x (ydo hk4 x hx)) hp
  have har := ylk t.1
  rw [ho.1] at har
  have hop1 := ynu e k (.bi t a d) [a] t r (d.fl ++ r) he hE ho (by rw [hE2]; simp [flX]) (by intro X hX; obtain rfl := List.mem_singleton.1 hX; exact ho.2.1) (by rw [ho.1]; simp)
  rw [show (k + 1 + (flX [a]).length) = k + 1 + a.fl.length by simp [flX]] at hop1
  refine yan Tryz.func229 rfl rfl Tryz.ntmps229 Tryz.results229 rfl rfl ?_
  (repeat (first | refine zy ?_ | refine yac rfl rfl har rfl rfl ?_ | refine yac rfl rfl ih1 rfl rfl ?_ | refine yac rfl rfl hop1 rfl rfl ?_ | refine yac rfl rfl ih2 rfl rfl ?_ | refine yac rfl rfl (rbin_con _ _ _ h17 hin1 hin2) rfl rfl ?_))
  refine yaf ?_; refine ⟨_, rfl, ?_⟩
  exact Frz.pure
 | .tr t a d f, ho, k, r, b, port, hE, ht, hp, hb => by
  have hE2 : e.drop k = t :: (a.fl ++ (d.fl ++ (f.fl ++ r))) := by rw [hE]; simp [Ex.fl]
  obtain ⟨hk1, hk2, hk3⟩ := yly hE2
  have he := W.he
  have h17 := zwe ho.1
  have hna : yhs t.1 = false := by cases h : yhs t.1 with | false => rfl | true => have := yne.1 h; omega
  have hka := ygz kinds hk b (.tr t a d f) a ho (by simp [yoo]) ht
  have hkd := ygz kinds hk b (.tr t a d f) d ho (by simp [yoo]) ht
  have hkf := ygz kinds hk b (.tr t a d f) f ho (by simp [yoo]) ht
  simp only [hd, hna, Bool.or_false] at hka hkd hkf
  have hk4 := yst hk2
  have hk5 := yst hk4
  have ih1 := yns W hk a ho.2.1 (k + 1) _ b port hk2 hka hp hb
  have ih2 := yns W hk d ho.2.2.1 (k + 1 + a.fl.length) _ b port hk4 hkd hp hb
  have ih3 := yns W hk f ho.2.2.2 (k + 1 + a.fl.length + d.fl.length) r b port hk5 hkf hp hb
  rw [show ((k + 1 : Nat) : Int) = (k : Int) + 1 by omega] at ih1
  have har := ylk t.1
  rw [ho.1] at har
  have hop1 := ynu e k (.tr t a d f) [a] t r (d.fl ++ (f.fl ++ r)) he hE ho (by rw [hE2]; simp [flX]) (by intro X hX; obtain rfl := List.mem_singleton.1 hX; exact ho.2.1) (by rw [ho.1]; simp)
  rw [show (k + 1 + (flX [a]).length) = k + 1 + a.fl.length by simp [flX]] at hop1
  have hop2 := ynu e k (.tr t a d f) [a, d] t r (f.fl ++ r) he hE ho (by rw [hE2]; simp [flX]) (by intro X hX; simp at hX; rcases hX with rfl | rfl <;> first | exact ho.2.1 | exact ho.2.2.1) (by rw [ho.1]; simp)
  rw [show (k + 1 + (flX [a, d]).length) = k + 1 + a.fl.length + d.fl.length by simp [flX]; omega] at hop2
  refine yan Tryz.func229 rfl rfl Tryz.ntmps229 Tryz.results229 rfl rfl ?_
  (repeat (first | refine zy ?_ | refine yac rfl rfl har rfl rfl ?_ | refine yac rfl rfl ih1 rfl rfl ?_))
  refine yag rfl (fun q5 => ?_) (fun q5 => ?_)
  ·(repeat (first | refine zy ?_ | refine yac rfl rfl hop1 rfl rfl ?_ | refine yac rfl rfl ih2 rfl rfl ?_))
   refine yaf ?_; refine ⟨_, rfl, ?_⟩
   exact yae (by simp only [Scn.val]; rw [if_pos (by simpa using q5)])
  ·(repeat (first | refine zy ?_ | refine yac rfl rfl hop2 rfl rfl ?_ | refine yac rfl rfl ih3 rfl rfl ?_))
   refine yaf ?_; refine ⟨_, rfl, ?_⟩
   exact yae (by simp only [Scn.val]; rw [if_neg (by simpa using q5)])
end
section
open Go.RowKit
theorem rval_con {p : ProgD} {g : GraphD} {c : List (List Int)} (h : CfgOk p g c) {v : Nat} (hv : v < c.length) {e : List Tm} (ht : (ofF e (ybg p) false).1 ≠ 0) : Con Tryz.prog 229 [yin g, yfh c, i64 v, i64 (-1), ydp e, i64 0] (i64 ((⟨g, c, v⟩ : Scn).of e)) := by
 obtain ⟨E, hp, hE, ho, hfl, hk, hval, hty⟩ := zsr ht rfl
 obtain ⟨ls, hls⟩ := h.links hv
 have W := h.walk hls (by rw [← h.kinds]; exact hval)
 have hc := yns W hk E ho 0 [] false (-1) (by rw [hfl]; simp) hty (by unfold InV yeo; omega) (by simp)
 unfold Scn.of
 rw [hE]
 exact hc
theorem rfirst_con {p : ProgD} {g : GraphD} {c : List (List Int)} (h : CfgOk p g c) {v : Nat} (hv : v < c.length) : Con Tryz.prog 178 [ypd p, yin g, yfh c, i64 v] (i64 (zil p ⟨g, c, v⟩)) := by
 have hlen := (ydh h.prog).2.2.1
 refine yan Tryz.func178 rfl rfl Tryz.ntmps178 Tryz.results178 rfl rfl ?_
 (try refine zy ?_)
 refine ycy (α := Nat) (fun k => [(9, i64 k), (4, .lp 4 0), (5, .lp 5 0), (2, yfh c), (3, i64 v)]) (fun k => [(4, some (.cells [zdc p.name, .sl 6 (p.vars.map ydu), .sl 3 (p.rules.map yfb)])), (5, some (.cells [yaq g.ids, ybd g.ports]))]) (fun k => p.rules.length - k) (fun k => k ≤ p.rules.length ∧ ∀ j b, j < k → (p.rules.map fun r => (⟨g, c, v⟩ : Scn).of r.guard)[j]? = some b → b = 0) 0 ⟨by omega, fun j b hj => by omega⟩ (by exact zs) (by exact zh) ?_
 intro k ⟨hk, hall⟩
 (try refine zy ?_)
 refine yag rfl (fun h1 => ?_) (fun h1 => ?_)
 ·simp at h1
  obtain ⟨r, hr⟩ := ycz h1
  have hat : (p.rules.map fun r => (⟨g, c, v⟩ : Scn).of r.guard)[k]? = some ((⟨g, c, v⟩ : Scn).of r.guard) := by rw [List.getElem?_map, hr]; rfl
  have ht := zci h.prog (List.mem_of_getElem? hr)
  (repeat (first | refine zy ?_ | refine yac rfl rfl (rval_con h hv (e := r.guard) (by omega)) rfl rfl ?_))
  refine yag rfl (fun h2 => ?_) (fun h2 => ?_)
  ·(try refine zy ?_)
   refine yaf ?_; refine ⟨_, rfl, ?_⟩
   exact yae (by unfold zil; rw [zjz hat (by simpa using h2) hall]; simp)
  ·(try refine zy ?_)
   refine rnd (k + 1) ⟨by omega, fun j b hj hb => ?_⟩ (by omega) (by exact zs) (by exact zh)
   by_cases e : j = k
   ·subst e
    rw [hat] at hb
    cases hb
    simpa using h2
   ·exact hall j b (by omega) hb
 ·simp at h1
  obtain rfl : k = p.rules.length := by omega
  (try refine zy ?_)
  refine yaf ?_; refine ⟨_, rfl, ?_⟩
  refine yae ?_
  unfold zil
  rw [yvl]
  intro a ha
  obtain ⟨j, hj⟩ := List.getElem?_of_mem ha
  exact hall j a (by have := (List.getElem?_eq_some_iff.1 hj).1; simpa using this) hj
theorem renabled0_con {p : ProgD} {g : GraphD} {c : List (List Int)} (h : CfgOk p g c) : Con Tryz.prog 115 [ypd p, yin g, yfh c] (ycm (ykl p g c)) := by
 have hl := h.len
 have h24 := h.n24
 refine yan Tryz.func115 rfl rfl Tryz.ntmps115 Tryz.results115 rfl rfl ?_
 (try refine zy ?_)
 refine ycy (α := Nat) (fun k => [(8, i64 k), (7, ycm (yph (zdl p g c) k)), (3, .lp 3 0), (4, .lp 4 0), (2, yfh c)]) (fun k => [(3, some (.cells [zdc p.name, .sl 6 (p.vars.map ydu), .sl 3 (p.rules.map yfb)])), (4, some (.cells [yaq g.ids, ybd g.ports]))]) (fun k => c.length - k) (fun k => k ≤ c.length) 0 (by omega) (by exact zs) (by exact zh) ?_
 intro k hk
 (try refine zy ?_)
 refine yag rfl (fun h1 => ?_) (fun h1 => ?_)
 ·simp at h1
  (repeat (first | refine zy ?_ | refine yac rfl rfl (rfirst_con h h1) rfl rfl ?_))
  have hnext : ∀ q, zdl p g c k = q → yph (zdl p g c) (k + 1) = if q = true then yph (zdl p g c) k ||| (1#32 <<< k) else yph (zdl p g c) k := fun q hq => by rw [yph, hq]
  refine yag rfl (fun h2 => ?_) (fun h2 => ?_)
  ·(repeat (first | refine yid tok rfl (by constructor <;> omega) rfl rfl ?_ | refine yel rfl rfl (by omega) rfl rfl ?_ | refine yic rfl rfl rfl rfl ?_ | refine ybo rfl rfl rfl rfl ?_ | refine zI ?_ | refine zL ?_ | refine zC ?_ | refine ydw ?_ | refine ydl ?_ | refine zR ?_ | refine zD ?_ | refine zK ?_ | refine zB ?_ | refine zA ?_ | refine zS ?_ | refine zU ?_ | refine zV ?_ | refine zF ?_ | with_reducible refine ybl ?_ | with_reducible refine ycc ?_ | refine ybr ?_ | refine ybx ?_ | refine yco ?_ | refine zT ?_ | refine zE ?_ | refine zX ?_))
   have e := hnext true (by simpa [zdl] using h2)
   rw [if_pos rfl] at e
   refine rnd (k + 1) (by omega) (by omega) ?_ (by exact zh)
   rw [e]
   exact (by exact zs)
  ·(try refine zy ?_)
   have e := hnext false (by simpa [zdl] using h2)
   rw [if_neg (by simp)] at e
   refine rnd (k + 1) (by omega) (by omega) ?_ (by exact zh)
   rw [e]
   exact (by exact zs)
 ·simp at h1
  obtain rfl : k = c.length := by omega
  (try refine zy ?_)
  refine yaf ?_; refine ⟨_, rfl, ?_⟩
  exact Frz.pure
theorem renabled_con {p : ProgD} {g : GraphD} {c : List (List Int)} (h : CfgOk p g c) : Con Tryz.prog 61 [ypd p, yin g, yfh c] (ycm (ykl p g c)) := by
 have hm := ykc p g c h.fair h.cin
 rw [h.chk] at hm
 refine yan Tryz.func61 rfl rfl Tryz.ntmps61 Tryz.results61 rfl rfl ?_
 (repeat (first | refine zy ?_ | refine yac rfl rfl hm rfl rfl ?_ | refine yac rfl rfl (renabled0_con h) rfl rfl ?_))
 refine yaf ?_; refine ⟨_, rfl, ?_⟩
 exact Frz.pure
end
set_option maxHeartbeats 4000000
section
open Go.RowKit
theorem zcl (xs : List AV) : isC (yjq xs) = false := by cases xs <;> rfl
theorem yip {ok : Nat → Prop} {lv : Live} {w : World} {b n : Nat} {xs : List AV} : ygl ok lv w b n (yjq xs) ↔ ygw ok lv w b n xs := by
 cases xs with
 | nil => exact ⟨fun h => h.1, fun h => ⟨h, fun x hx => by cases hx⟩⟩
 | cons x xs => exact Iff.rfl
theorem ymd {B : Bse} {ok : Nat → Prop} {lv : Live} {w : World} {n : Nat} {xs : List AV} (h : yha B ok lv w n (yjq xs) none) : xs = [] := by
 cases xs with
 | nil => rfl
 | cons x xs => rcases h with h | ⟨e, h⟩ <;> cases h
theorem yun {id : Nat} : ∀ {xs : List AV}, (∀ x ∈ xs, ment id x = false) → ment.mentL id xs = false
 | [], _ => rfl
 | x :: xs, h => by simp only [ment.mentL, h x (by simp), Bool.false_or]; exact yun fun y hy => h y (by simp [hy])
variable {P : Program} {T : Nat → Option Ty} {N : Nat} {ops : Array Oper} {lf : Oper → Bool} {Q : SS → Prop} {t : List (Nat × AV)} {h : List (Nat × Option LObj)} {rest : List Oper} {d : Nat} {op : Op} {ty : TypeId} {pos : String} {af : Array Edge} {gd : Option (Nat × Bool)} {r : AV}
theorem buildM_loud (hT : TOK P T) {o : Oper} {ti e es eb sz len : Nat} {ea ag : Bool} {ez z : List Value} {parts : List (Nat × Operand)} {ps : List (Nat × AV)} {ys : List AV} {s : SS} (id : Nat) (ho : o.op = .buildSlice ti len parts.toArray) (hd : o.dst = some d) (hdN : d < N) (hk : T ti = some ⟨.slc e es ea eb ez, sz, ag, z⟩) (hone : ez.all Value.oneCell' = true)
  (hps : evP (evF s.t) parts = some ps) (hf : yuw (fun i => some (i * es, es)) (yms len (yln ez)) ps = some ys) (hlen : ys.length = len * es) (hlim : Nat.ble (len * es) 16777216 = true) (hfr : yls s id) (hm : ment.mentL id ys = false) :
  ych P N o s (· = ⟨yes s.t (some d) (.ls id es len), yeq s.h id (some (yjq ys))⟩) := by
 intro B ok0 lv a w hs Q
 obtain ⟨h1, h2⟩ := zca (ok := ybn B ok0 lv w) (w := w) (lv := lv) (a := a) hps fun x y hx hxy => hs.eval hxy
 obtain ⟨hu, hsz, _, hz, hzl, hpos⟩ := (hT _ _ hk).2.2
 obtain ⟨zv, hz1, hz2⟩ := hz.run (w := w)
 obtain ⟨out, g1, g2, g3⟩ := yrd (place' := fun i => some (i * es, es)) (fun i p h => h) hf (zda (z := ez) len (by omega)) (ysb (yny hone) len) h1 h2
 have hlim' : len * es ≤ 16777216 := by simpa using hlim
 have hle : len ≤ len * es := Nat.le_mul_of_pos_right _ hpos
 have hrun : (execOp a.eval o).run P w = .ok (.value (.slice (some ⟨w.heap.size, 0, none⟩) len len)) (w.alloc (.cells out.toArray e)) := by
  have e' : Instr.fill (fun i => some (i * es, es)) (madeCells ez.toArray (len * es)) (parts.toArray.map fun x => (x.1, a.eval x.2)).toList = some out.toArray := by
   have : (madeCells ez.toArray (len * ez.length)).toList.toArray = madeCells ez.toArray (len * es) := by rw [hzl]
   rw [← this]
   have e : (parts.toArray.map fun x => (x.1, a.eval x.2)).toList = parts.map fun x => (x.1, a.eval x.2) := by simp
   rw [e]; exact g1
  unfold madeCells at e'
  have n1 : ¬ (len * es > 2 ^ 24) := by omega
  by_cases h0 : len * es = 0
  ·have hl0 : len = 0 := by omega
   subst hl0
   simp only [Nat.zero_mul, Array.range_zero', Array.map_empty] at e'
   simp [execOp, ho, Instr.buildSlice, run_underlying hu, (hsz.run (w := w)).1, newRow, Array.range_zero']
   simp at e'
   rw [e']
   simp
  ·simp only [execOp, ho, Instr.buildSlice, Sem.run_bind, run_underlying hu, (hsz.run (w := w)).1, Result.andThen_ok, if_neg n1, if_neg h0, hz1, hz2, Sem.run_pure, e', newRow]
   simp
 unfold Oper.wp
 rw [hrun]
 simp only [Oper.upon, hd]
 have hnew := hs.newBlock (ob := yjq ys) (n := len * es) hfr (w' := w.alloc (.cells out.toArray e)) (yds w _) (by simp) (by rw [yoq]; exact hm) (fun h => by rw [zcl] at h; cases h)
  (fun ok' lv' k1 k2 => yip.2 (ywf (e := e) (extra := []) (by rw [g2.1, hlen]; simp) (by rw [List.append_nil]; exact ydq w _) g2 g3 ok' lv' k1 fun i b mm hb hmm => k2 i b mm hb (by rw [yoq]; exact hmm)))
 refine ⟨_, _, rfl, hnew.putOnly hdN (.ls _ rfl fun b n' hb => ?_)⟩
 simp only [yif, if_true, Option.some.injEq, Prod.mk.injEq] at hb
 obtain ⟨rfl, rfl⟩ := hb
 exact ⟨len, rfl, Nat.le_refl _, by unfold maxLen; omega, rfl⟩
theorem L_buildM (hT : TOK P T) {ti e es eb sz len : Nat} {ea ag : Bool} {ez z : List Value} {parts : List (Nat × Operand)} {ps : List (Nat × AV)} {ys : List AV} (id : Nat) (hk : T ti = some ⟨.slc e es ea eb ez, sz, ag, z⟩) (hone : ez.all Value.oneCell' = true)
  (hps : evP (evF (look t)) parts = some ps) (hf : yuw (fun i => some (i * es, es)) (yms len (yln ez)) ps = some ys) (hlen : ys.length = len * es) (hlim : Nat.ble (len * es) 16777216 = true) (hfr : yls (S t h) id) (hm : ment.mentL id ys = false)
  (hl : lf ⟨some d, .buildSlice ti len parts.toArray, ty, pos, af, gd⟩ = true) (hw : yaj ops (look t) ⟨some d, .buildSlice ti len parts.toArray, ty, pos, af, gd⟩ = some true) (hd : Nat.blt d N = true) (k : Lex P N ops lf Q rest (S ((d, .ls id es len) :: t) ((id, some (yjq ys)) :: h))) :
  Lex P N ops lf Q (⟨some d, .buildSlice ti len parts.toArray, ty, pos, af, gd⟩ :: rest) (S t h) := by
 refine yec hl hw ?_ k
 have := buildM_loud (N := N) (s := S t h) (P := P) hT (o := ⟨some d, .buildSlice ti len parts.toArray, ty, pos, af, gd⟩) id rfl rfl (by simpa using hd) hk hone hps hf hlen hlim hfr hm
 rwa [show (⟨yes (S t h).t (some d) (.ls id es len), yeq (S t h).h id (some (yjq ys))⟩ : SS) = S ((d, .ls id es len) :: t) ((id, some (yjq ys)) :: h) from yqa] at this
def zmm (id : Nat) (t : List (Nat × AV)) : List (Nat × AV) → Prop
 | [] => True
 | (x, y) :: t' => (look t x = some y ∧ ment id y = false) ∧ zmm id t t'
theorem subTM_nil {id : Nat} {t : List (Nat × AV)} : zmm id t [] := trivial
theorem subTM_cons {id : Nat} {t : List (Nat × AV)} {x : Nat} {y : AV} {t' : List (Nat × AV)} (h1 : look t x = some y) (h2 : ment id y = false) (h : zmm id t t') : zmm id t ((x, y) :: t') := ⟨⟨h1, h2⟩, h⟩
theorem ytq {id : Nat} {t : List (Nat × AV)} : ∀ {t' : List (Nat × AV)}, zmm id t t' → ∀ x y, look t' x = some y → look t x = some y ∧ ment id y = false
 | [], _, x, y, h => by simp [look] at h
 | (s, z) :: t', hs, x, y, h => by
  simp only [look] at h
  split at h
  ·rename_i e
   have e : x = s := by simpa using e
   subst e
   simp only [Option.some.injEq] at h
   subst h
   exact hs.1
  ·exact ytq hs.2 x y h
theorem L_appendV (hT : TOK P T) {ti e es eb sz : Nat} {ea ag : Bool} {ez z : List Value} {x y : Operand} {id len : Nat} {xs : List AV} {rows : List (List AV)} {t' : List (Nat × AV)} {h0 : List (Nat × Option LObj)} (hk : T ti = some ⟨.slc e es ea eb ez, sz, ag, z⟩) (hx : evF (look t) x = some (.ls id es len)) (hxl : xs.length = len * es) (hy : evF (look t) y = some (.sl es rows))
  (hcp : ∀ c ∈ rows.flatten, ybf c = true) (hlim : len + rows.length ≤ 4294967296 ∧ (len + rows.length) * eb ≤ 140737488355328) (ht : zmm id t t') (h2 : ycb id h0 = true) (hl : lf ⟨some d, .call { callee := .builtin .append, args := #[x, y], argTypes := #[ti, ti] }, ty, pos, af, gd⟩ = true)
  (hw : yaj ops (look t) ⟨some d, .call { callee := .builtin .append, args := #[x, y], argTypes := #[ti, ti] }, ty, pos, af, gd⟩ = some true) (hd : Nat.blt d N = true) (k : Lex P N ops lf Q rest (S ((d, .ls id es (len + rows.length)) :: t') ((id, some (.vec (xs ++ rows.flatten))) :: h0))) :
  Lex P N ops lf Q (⟨some d, .call { callee := .builtin .append, args := #[x, y], argTypes := #[ti, ti] }, ty, pos, af, gd⟩ :: rest) (S t ((id, some (.vec xs)) :: h0)) := by
 have e : S ((d, .ls id es (len + rows.length)) :: t') ((id, some (.vec (xs ++ rows.flatten))) :: h0) = (⟨yes (S t' ((id, some (.vec (xs ++ rows.flatten))) :: h0)).t (some d) (.ls id es (len + rows.length)), (S t' ((id, some (.vec (xs ++ rows.flatten))) :: h0)).h⟩ : SS) := by
  unfold S; rw [ydi]
 refine yec hl hw ?_ k
 rw [e]
 refine ylu hT rfl rfl (by simpa using hd) hk hx (by simp [S, yad]) hxl hy (fun ok w lv u hr => yyj hr) hcp hlim (fun x y h => .inr (ytq ht x y h)) (fun x y h => ⟨y, (ytq ht x y h).1⟩) (fun j ob' hj hob => ?_) ?_
 ·simp only [S] at hob ⊢
  rw [yaw hj] at hob ⊢
  exact ⟨(yei h2).2 j ob' hob, ob', hob, .inl rfl⟩
 ·simp [S, yad]
theorem con_of_own {f : FuncId} {args : List AV} {r r' : AV} {hs : Nat → Option LObj} (hc : yva P f args (fun _ => none) r hs) (hp : ybf r' = true) (hf : Frz hs r r') : Con P f args r' := by
 refine ⟨hc.1, hp, fun ok0 w us hG hok hus => ?_⟩
 have hno : ∀ b, ¬ ypq (fun _ => none) b := fun b ⟨_, _, h⟩ => by cases h
 have hi : Inv (yfr w (fun _ => none)) ok0 (fun _ => none) (fun _ => none) w := ⟨⟨rfl, rfl, rfl, Nat.le_refl _, fun _ _ _ => rfl, hG, hG.size, fun k h => (hno k h).elim, fun l h => by cases h⟩, hok, fun _ _ => rfl, (fun i j b n m h => by cases h), (fun id x h => by cases h)⟩
 refine (hc.2.2 ok0 (fun _ => none) w us hi ⟨hus.1, fun i x u hx hu => (hus.2 i x u hx hu).keep fun g hg => ⟨⟨.inl hg, hok g hg, fun id b n h => by cases h⟩, rfl⟩⟩).mono ?_
 rintro e w' ⟨u, lv', rfl, h1, h2, _⟩
 refine ⟨u, rfl, ((hf _ _ _ _ _ h2 h1).keep fun g hg => ⟨⟨?_, hg.2⟩, rfl⟩), ?_⟩
 ·rcases hg.1 with h | h | h
  ·exact .inl h
  ·exact (hno g h).elim
  ·exact .inr h
 ·have hb := h2.base
  exact ⟨hb.os, hb.tape, hb.output, hb.size, fun k hk => hb.block k hk (hno k)⟩
theorem L_lenI (hT : TOK P T) {ti e es eb sz : Nat} {ea ag : Bool} {ez z0 : List Value} {x : Operand} {id z len : Nat} {ob : LObj} (hk : T ti = some ⟨.slc e es ea eb ez, sz, ag, z0⟩) (hx : evF (look t) x = some (.ls id z len)) (hh : yad h id = some ob)
  (hw : yaj ops (look t) ⟨some d, .call { callee := .builtin .len, args := #[x], argTypes := #[ti] }, ty, pos, af, gd⟩ = some true) (hd : Nat.blt d N = true) (k : Lex P N ops lf Q rest (S ((d, .v (.int .i64 len)) :: t) h)) : Lex P N ops lf Q (⟨some d, .call { callee := .builtin .len, args := #[x], argTypes := #[ti] }, ty, pos, af, gd⟩ :: rest) (S t h) :=
 ycf (yut (hT _ _ hk).2.2 hx hh) hw hd k
end
section
open Go.RowKit
variable {P : Program} {T : Nat → Option Ty} {N : Nat} {ops : Array Oper} {lf : Oper → Bool} {Q : SS → Prop} {t : List (Nat × AV)} {h : List (Nat × Option LObj)} {rest : List Oper} {d : Nat} {ty : TypeId} {pos : String} {af : Array Edge} {gd : Option (Nat × Bool)}
theorem ych.weak {o : Oper} {s s' : SS} {R : SS → Prop} (h : ∀ (B : Bse) (ok0 : Nat → Prop) (lv : Live) (a : Act) (w : World), Sim B ok0 N s lv a w → Sim B ok0 N s' lv a w) (k : ych P N o s' R) : ych P N o s R :=
 fun B ok0 lv a w hs Q => k B ok0 lv a w (h B ok0 lv a w hs) Q
theorem Sim.oneM {B : Bse} {ok0 : Nat → Prop} {s : SS} {lv : Live} {a : Act} {w : World} (hs : Sim B ok0 N s lv a w) {id : Nat} {xs : List AV} (i : Nat) (hx : s.h id = some (yjq xs)) : Sim B ok0 N ⟨s.t, fun j => if j = id then some (yjq (xs.set i .one)) else s.h j⟩ lv a w := by
 refine ⟨⟨hs.inv.base, hs.inv.ok0lt, fun j hj => ?_, hs.inv.inj, fun j x hj => ?_⟩, hs.size, hs.frame, hs.defers, hs.big, fun j b o hN hj hc hb => ?_⟩
 ·simp only at hj
  split at hj
  ·cases hj
  ·exact hs.inv.dom j hj
 ·simp only at hj
  split at hj
  ·rename_i e
   subst e
   simp only [Option.some.injEq] at hj
   subst hj
   obtain ⟨b, n, h1, h2⟩ := hs.inv.obj j _ hx
   refine ⟨b, n, h1, ?_⟩
   cases b with
   | none => rw [ymd h2]; exact .inl rfl
   | some b =>
    obtain ⟨c, e, g1, g2, g3, g4, g5⟩ := yip.1 h2.2.2
    refine ⟨h2.1, h2.2.1, yip.2 ⟨c, e, g1, g2, by rw [List.length_set]; exact g3, fun y hy => ?_, fun k y u hy hu => ?_⟩⟩
    ·rcases List.mem_or_eq_of_mem_set hy with hy | rfl
     ·exact g4 y hy
     ·rfl
    ·rw [List.getElem?_set] at hy
     split at hy
     ·rename_i e
      subst e
      split at hy
      ·rename_i hlt
       simp only [Option.some.injEq] at hy
       subst hy
       have hg := List.getElem?_eq_getElem hlt
       exact .one _ ((g5 i _ u hg hu).oneCell (g4 _ (List.getElem_mem hlt)))
      ·cases hy
     ·exact g5 k y u hy hu
  ·exact hs.inv.obj j x hj
 ·simp only at hj
  split at hj
  ·simp only [Option.some.injEq] at hj
   subst hj
   rw [zcl] at hc
   cases hc
  ·exact hs.pin j b o hN hj hc hb
theorem ywy {f : List (Nat × Option LObj)} {M j : Nat} {o ob : LObj} {rows : List (List AV)} (h : yad (f ++ (M, some o) :: yqg M 0 rows) j = some ob) : yad f j = some ob ∨ (j = M ∧ (∀ x ∈ f, x.1 ≠ j) ∧ ob = o) ∨ ∃ (k : Nat) (r : List AV), j = fam M k ∧ rows[k]? = some r ∧ ob = .vec r := by
 rcases ydf f ((M, some o) :: yqg M 0 rows) (j := j) with e | ⟨hne, e⟩
 ·rw [e] at h; exact .inl h
 ·rw [e] at h
  by_cases hj : j = M
  ·subst hj
   rw [yah] at h
   cases h
   exact .inr (.inl ⟨rfl, hne, rfl⟩)
  ·rw [yaw hj] at h
   by_cases hf : ∃ k, j = fam M k
   ·obtain ⟨k, rfl⟩ := hf
    have := ykm M 0 k rows
    rw [Nat.zero_add] at this
    rw [this] at h
    cases hr : rows[k]? with
    | none => rw [hr] at h; cases h
    | some r => rw [hr] at h; cases h; exact .inr (.inr ⟨k, r, rfl, hr, rfl⟩)
   ·rw [yjc M 0 rows fun i _ e => hf ⟨i, e⟩] at h
    cases h
theorem zcr : ∀ {l : List AV}, ypg.lowL l = true → ∀ x ∈ l, ypg x = true
 | y :: l, h, x, hx => by
  simp only [ypg.lowL, Bool.and_eq_true] at h
  rcases List.mem_cons.1 hx with rfl | hx
  ·exact h.1
  ·exact zcr h.2 x hx
theorem matC_mem {M sz : Nat} {k : Nat} {rows : List (List AV)} {x : AV} (h : x ∈ yfz M sz k rows) : ∃ i n, x = .ls (fam M (k + i)) sz n := by
 obtain ⟨i, hi⟩ := List.getElem?_of_mem h
 rw [yfl] at hi
 cases hr : rows[i]? with
 | none => rw [hr] at hi; cases hi
 | some r => rw [hr] at hi; cases hi; exact ⟨i, _, rfl⟩
theorem ment_hole {M sz i : Nat} {rows : List (List AV)} {extra : List AV} (he : ypg.lowL extra = true) : ∀ x ∈ (yfz M sz 0 rows ++ extra).set i .one, ment (fam M i) x = false := by
 intro x hx
 obtain ⟨j, hj⟩ := List.getElem?_of_mem hx
 rw [List.getElem?_set] at hj
 split at hj
 ·split at hj
  ·cases hj; rfl
  ·cases hj
 ·rename_i hne
  rcases List.mem_append.1 (List.mem_of_getElem? hj) with hm | hm
  ·have hlt : j < (yfz M sz 0 rows).length ∨ (yfz M sz 0 rows).length ≤ j := by omega
   rcases hlt with hlt | hlt
   ·rw [List.getElem?_append_left hlt, yfl] at hj
    cases hr : rows[j]? with
    | none => rw [hr] at hj; cases hj
    | some r =>
     rw [hr] at hj
     cases hj
     exact ydm fun e => hne (by have := yqh e; omega)
   ·rw [List.getElem?_append_right hlt] at hj
    exact ypg.ment (ygc M i) (zcr he x (List.mem_of_getElem? hj))
  ·exact ypg.ment (ygc M i) (zcr he x hm)
theorem ych.sub {o : Oper} {s s1 s2 : SS} (h : ych P N o s (· = s1)) (hs : Sub s2 s1) : ych P N o s (· = s2) :=
 fun B ok0 lv a w h0 Q => Oper.wp_mono (fun a' w' ⟨s', lv', e, hs'⟩ => by
  subst e
  obtain ⟨lv'', h2⟩ := hs'.weak hs
  exact ⟨s2, lv'', rfl, h2⟩) (h B ok0 lv a w h0 Q)
theorem yug {o : Oper} {s : SS} {ti e es eb sz len M i : Nat} {ea ag : Bool} {ez z : List Value} {x y : Operand} {r : List AV} {rows news : List (List AV)} {extra : List AV} {f : List (Nat × Option LObj)} {t' : Nat → Option AV} (hT : TOK P T) (ht : ∀ x y, t' x = some y → y = .any ∨ (s.t x = some y ∧ ment (fam M i) y = false)) (hlt9 : ∀ x y, t' x = some y → ∃ z, s.t x = some z) (ho : o.op = .call { callee := .builtin .append, args := #[x, y], argTypes := #[ti, ti] }) (hdo : o.dst = some d) (hk : T ti = some ⟨.slc e es ea eb ez, sz, ag, z⟩) (hx : evF s.t x = some (.ls (fam M i) es len)) (hr : rows[i]? = some r) (hxl : r.length = len * es) (hy : evF s.t y = some (.sl es news))
  (hcp : ∀ c ∈ news.flatten, ybf c = true) (hlim : len + news.length ≤ 4294967296 ∧ (len + news.length) * eb ≤ 140737488355328) (hsh : s.h = yad (f ++ yek M es rows extra)) (hf : zhj f = true) (hM : Nat.blt M 1000000 = true) (hkey : (f.all fun x => !Nat.beq x.1 M) = true) (he : ypg.lowL extra = true) (hd : Nat.blt d N = true) :
  ych P N o s (· = ⟨yes t' (some d) (.ls (fam M i) es (len + news.length)), yad (f ++ (M, some (yjq ((yfz M es 0 rows ++ extra).set i .one))) :: yqg M 0 (rows.set i (r ++ news.flatten)))⟩) := by
 have hM' : M < 1000000 := by simpa using hM
 have hfl := yop hf
 have hkn := ymb hkey
 have hlt := (List.getElem?_eq_some_iff.1 hr).1
 generalize hys : (yfz M es 0 rows ++ extra).set i .one = ys
 have hout : yad (f ++ yek M es rows extra) M = some (yjq (yfz M es 0 rows ++ extra)) := yba hkey
 refine ych.weak (fun B ok0 lv a w hs => hs.oneM i (id := M) (by rw [hsh]; exact hout)) ?_
 refine ylu (s' := ⟨t', yad (f ++ (M, some (yjq ys)) :: yqg M 0 (rows.set i (r ++ news.flatten)))⟩) hT ho hdo (by simpa using hd) hk hx ?_ hxl hy (fun ok w lv u hr => yyj hr) hcp hlim ht hlt9 (fun j ob' hj hob => ?_) ?_
 ·simp only [if_neg (Ne.symm (yed (k := i) hM')), hsh]
  exact yap hfl hM' hr
 ·rcases ywy hob with g | ⟨rfl, hne, rfl⟩ | ⟨k, r', rfl, hr', rfl⟩
  ·obtain ⟨q1, q2⟩ := yjg hf j _ g
   have hjM : j ≠ M := fun e9 => by
    subst e9
    have := ybi f (yek j es rows extra) (j := j) hkn
    rw [yfj (g := yek j es rows extra) g] at this
    rw [ygr] at this
    cases this
    rcases ydf f [] (j := j) with e | ⟨hne, e⟩
    ·have h9 : ∀ (f : List (Nat × Option LObj)), (∀ x ∈ f, x.1 ≠ j) → yad f j = none := fun f => by
      induction f with
      | nil => intro _; rfl
      | cons p f ih =>
       intro hp
       obtain ⟨p1, p2⟩ := p
       rw [yaw (Ne.symm (hp (p1, p2) (by simp)))]
       exact ih fun x hx => hp x (by simp [hx])
     rw [h9 f hkn] at g; cases g
    ·rw [List.append_nil] at e
     rw [e] at g; cases g
   refine ⟨zmt.ment (ygc M i) q1, ob', ?_, .inl rfl⟩
   simp only [if_neg hjM, hsh]
   exact yfj g
  ·refine ⟨?_, _, by simp only [if_true]; rfl, .inl (by rw [hys])⟩
   rw [yoq, ← hys]
   exact yun (ment_hole he)
  ·have hki : k ≠ i := fun e => hj (by rw [e])
   refine ⟨rfl, .vec r', ?_, .inl rfl⟩
   simp only [if_neg (Ne.symm (yed (k := k) hM')), hsh]
   rw [List.getElem?_set_ne (Ne.symm hki)] at hr'
   exact yap hfl hM' hr'
 ·show yad (f ++ (M, some (yjq ys)) :: yqg M 0 (rows.set i (r ++ news.flatten))) (fam M i) = _
  rw [ybi f _ (fun x hx e => by have := yfu hfl x hx; have := ygc M i; omega), yaw (Ne.symm (yed hM'))]
  have := ykm M 0 i (rows.set i (r ++ news.flatten))
  rw [Nat.zero_add] at this
  rw [this, List.getElem?_set_self hlt]
  rfl
theorem zkb {f : List (Nat × Option LObj)} {M sz i n : Nat} {rows : List (List AV)} {extra r' : List AV} (hf : zdm f = true) (hM : M < 1000000) (hkey : (f.all fun x => !Nat.beq x.1 M) = true) (hi : i < rows.length) (hn : r'.length / sz = n) :
  yad ((M, some (yjq (((yfz M sz 0 rows ++ extra).set i .one).set i (.ls (fam M i) sz n)))) :: (f ++ (M, some (yjq ((yfz M sz 0 rows ++ extra).set i .one))) :: yqg M 0 (rows.set i r'))) = yad (f ++ yek M sz (rows.set i r') extra) := by
 have hkn := ymb hkey
 have e : ((yfz M sz 0 rows ++ extra).set i .one).set i (.ls (fam M i) sz n) = yfz M sz 0 (rows.set i r') ++ extra := by
  rw [List.set_set, List.set_append_left _ _ (by rw [yev]; exact hi)]
  congr 1
  apply List.ext_getElem?
  intro j
  rw [List.getElem?_set, yev, yfl, yfl, List.getElem?_set]
  by_cases hj : i = j
  ·subst hj
   simp [hi, hn]
  ·simp [hj]
 rw [e]
 funext j
 by_cases hj : j = M
 ·subst hj
  rw [yah, yba hkey]
 ·rw [yaw hj]
  rcases ydf f ((M, some (yjq ((yfz M sz 0 rows ++ extra).set i .one))) :: yqg M 0 (rows.set i r')) (j := j) with g | ⟨hne, g⟩
  ·by_cases hf' : ∃ x ∈ f, x.1 = j
   ·have : ∀ (f : List (Nat × Option LObj)) (g1 g2 : List (Nat × Option LObj)), (∃ x ∈ f, x.1 = j) → yad (f ++ g1) j = yad (f ++ g2) j := by
     intro f
     induction f with
     | nil => rintro g1 g2 ⟨x, hx, _⟩; cases hx
     | cons p f ih =>
      intro g1 g2 hx
      obtain ⟨p1, p2⟩ := p
      by_cases hp : j = p1
      ·subst hp
       rw [List.cons_append, List.cons_append, yah, yah]
      ·rw [List.cons_append, List.cons_append, yaw hp, yaw hp]
       obtain ⟨x, hx, hxj⟩ := hx
       rcases List.mem_cons.1 hx with rfl | hx
       ·exact absurd hxj.symm hp
       ·exact ih g1 g2 ⟨x, hx, hxj⟩
    exact this f _ _ hf'
   ·have hne : ∀ x ∈ f, x.1 ≠ j := fun x hx e => hf' ⟨x, hx, e⟩
    rw [ybi f _ hne, ybi f _ hne, yek, yaw hj, yaw hj]
  ·rw [g, ybi f _ hne, yek, yaw hj, yaw hj]
theorem zdp {c : Code} {Q : Exit → SS → Prop} {f : List (Nat × Option LObj)} (M sz n : Nat) (hf : zhj f = true) (ht : zrp t = true) (hM : Nat.blt M 1000000 = true) (hkey : (f.all fun x => !Nat.beq x.1 M) = true)
  (hh : yad h = yad (f ++ [(M, some (yjq (List.replicate n (.v (.slice none 0 0)))))])) (k : A P N c Q (S t (f ++ yek M sz (List.replicate n []) []))) : A P N c Q (S t h) := by
 rw [show S t h = S t (f ++ [(M, some (yjq (List.replicate n (.v (.slice none 0 0)))))]) by unfold S; rw [hh]]
 intro B ok0 lv a w hs
 have hM' : M < 1000000 := by simpa using hM
 have hfl := yop hf
 have hkn := ymb hkey
 let lv' : Live := fun j => match yad (yqg M 0 (List.replicate n ([] : List AV))) j with | some _ => some (none, 0) | none => lv j
 have hlv : ∀ j b m, lv' j = some (b, m) → (b = none ∧ m = 0 ∧ ∃ i, j = fam M i) ∨ lv j = some (b, m) := by
  intro j b m hj
  simp only [lv'] at hj
  split at hj
  ·rename_i ob ho
   cases hj
   refine .inl ⟨rfl, rfl, ?_⟩
   by_cases hfm : ∃ k, j = fam M k
   ·exact hfm
   ·rw [yjc M 0 _ fun i _ e => hfm ⟨i, e⟩] at ho; cases ho
  ·exact .inr hj
 have hlow : ∀ j, j < 1000000 → lv' j = lv j := by
  intro j hj
  simp only [lv']
  rw [yjc M 0 _ fun i _ e => by have := ygc M i; omega]
 have hok : ∀ g, ybn B ok0 lv w g → ybn B ok0 lv' w g := fun g hg => ⟨hg.1, hg.2.1, fun j b m hj => by
  rcases hlv j _ m hj with ⟨h, _⟩ | h
  ·cases h
  ·exact hg.2.2 j b m h⟩
 have hre : ∀ (x : AV) (u : Value), ypg x = true → Rel (ybn B ok0 lv w) w lv x u → Rel (ybn B ok0 lv' w) w lv' x u := fun x u hx hr =>
  (hr.relive fun j b m hj hm => by
   rcases hlv j b m hj with ⟨_, _, i, rfl⟩ | h
   ·rw [ypg.ment (ygc M i) hx] at hm; cases hm
   ·exact h).keep fun g hg => ⟨hok g hg, rfl⟩
 have hfam : ∀ i, lv (fam M i) = none := fun i => hs.inv.dom _ (by
  show yad (f ++ _) _ = none
  rw [ybi f _ (fun x hx e => by have := yfu hfl x hx; have := ygc M i; omega), yaw (Ne.symm (yed hM'))]
  rfl)
 refine k B ok0 lv' a w ⟨⟨hs.inv.base, hs.inv.ok0lt, fun j hj => ?_, fun i j b m q h1 h2 => ?_, fun j x hj => ?_⟩, hs.size, fun x y hy => ⟨(hs.frame x y hy).1, hre y _ (yrm ht x y hy) (hs.frame x y hy).2⟩, hs.defers, hs.big, fun j b o hN hj hc hb => ?_⟩
 ·simp only [S] at hj
  by_cases hfm : ∃ k, j = fam M k
  ·obtain ⟨i, rfl⟩ := hfm
   rw [zal hfl hM'] at hj
   simp only [lv']
   have e := ykm M 0 i (List.replicate n ([] : List AV))
   rw [Nat.zero_add] at e
   rw [e, hj]
   exact hfam i
  ·have e1 : lv' j = lv j := by
    simp only [lv']
    rw [yjc M 0 _ fun i _ e => hfm ⟨i, e⟩]
   rw [e1]
   refine hs.inv.dom j ?_
   show yad (f ++ [_]) j = none
   rcases ydf f [(M, some (yjq (List.replicate n (.v (.slice none 0 0)))))] (j := j) with e | ⟨hne, e⟩
   ·rw [e]
    cases hq : yad f j with
    | none => rfl
    | some o => rw [yfj (g := yek M sz (List.replicate n []) []) hq] at hj; cases hj
   ·rw [ybi f _ hne] at hj
    rw [e]
    by_cases hjM : j = M
    ·subst hjM; rw [ygr] at hj; cases hj
    ·rw [yaw hjM]; rfl
 ·rcases hlv i _ m h1 with ⟨h, _⟩ | h1
  ·cases h
  ·rcases hlv j _ q h2 with ⟨h, _⟩ | h2
   ·cases h
   ·exact hs.inv.inj i j b m q h1 h2
 ·rcases ywy hj with g | ⟨rfl, hne, rfl⟩ | ⟨i, r, rfl, hr, rfl⟩
  ·obtain ⟨q1, q2⟩ := yjg hf j _ g
   obtain ⟨b, m, h1, h2⟩ := hs.inv.obj j x (yfj g)
   refine ⟨b, m, by rw [hlow j q2]; exact h1, ?_⟩
   cases b with
   | none => exact h2
   | some b =>
    refine ⟨h2.1, h2.2.1, (h2.2.2.relive fun q b m hq hm => ?_).keep (fun g hg => ⟨hok g hg, rfl⟩) rfl⟩
    rcases hlv q _ m hq with ⟨_, _, i, rfl⟩ | h
    ·rw [zmt.ment (ygc M i) q1] at hm; cases hm
    ·exact h
  ·obtain ⟨b, m, h1, h2⟩ := hs.inv.obj j (yjq (List.replicate n (.v (.slice none 0 0)))) (by
    show yad (f ++ [_]) j = _
    rw [ybi f _ hne, yah])
   refine ⟨b, m, by rw [hlow j hM']; exact h1, ?_⟩
   rw [List.append_nil]
   cases b with
   | none =>
    have e := ymd h2
    cases n with
    | zero => exact .inl rfl
    | succ n => simp [List.replicate_succ] at e
   | some b =>
    obtain ⟨c, e, g1, g2, g3, g4, g5⟩ := yip.1 h2.2.2
    refine ⟨h2.1, h2.2.1, yip.2 ⟨c, e, g1, g2, by rw [yev, List.length_replicate]; rw [List.length_replicate] at g3; exact g3, fun y hy => ?_, fun q y u hy hu => ?_⟩⟩
    ·obtain ⟨i, m, rfl⟩ := matC_mem hy; rfl
    ·rw [yfl, List.getElem?_replicate] at hy
     split at hy
     ·rename_i hlt
      simp only [Option.map_some, Option.some.injEq, List.length_nil, Nat.zero_div, Nat.zero_add] at hy
      subst hy
      have h5 := yfp (g5 q _ u (by rw [List.getElem?_replicate, if_pos hlt]) hu)
      subst h5
      refine .ls _ rfl fun b m hb => ?_
      have e := ykm j 0 q (List.replicate n ([] : List AV))
      rw [Nat.zero_add, List.getElem?_replicate, if_pos hlt] at e
      simp only [lv', e, Option.map_some] at hb
      cases hb
      exact ⟨rfl, rfl⟩
     ·cases hy
  ·rw [List.getElem?_replicate] at hr
   split at hr
   ·rename_i hlt
    cases hr
    refine ⟨none, 0, ?_, .inl rfl⟩
    have e := ykm M 0 i (List.replicate n ([] : List AV))
    rw [Nat.zero_add, List.getElem?_replicate, if_pos hlt] at e
    simp only [lv', e, Option.map_some]
   ·cases hr
 ·rcases ywy hj with g | ⟨rfl, hne, rfl⟩ | ⟨i, r, rfl, hr, rfl⟩
  ·obtain ⟨m, hm⟩ := hs.pin j b o hN (yfj g) hc hb
   exact ⟨m, by rw [hlow j (yjg hf j _ g).2]; exact hm⟩
  ·rw [zcl] at hc; cases hc
  ·cases hc
end
section
open Go.RowKit
section
variable {P : Program} {N : Nat} {ops : Array Oper} {lf : Oper → Bool} {Q : SS → Prop}
structure TwoI (vals : List (Nat × Nat × AV)) (base : List (Nat × AV)) (mem : List (Nat × LObj)) (a b ia ib ja jb : Nat) (za zb ca cb : LObj) (L : Nat → Bool) (s : SS) : Prop where
 calm : ∀ x ∈ vals, L x.1 = true → s.t x.2.1 = some x.2.2
 base : ∀ x ∈ base, s.t x.1 = some x.2
 mem : ∀ x ∈ mem, s.h x.1 = some x.2
 fa : L ia = false → yls s a
 fb : L ib = false → yls s b
 ta : L ia = true → s.t a = some (.lp a 0)
 tb : L ib = true → s.t b = some (.lp b 0)
 ha : L ia = true → s.h a = some (if L ja then ca else za)
 hb : L ib = true → s.h b = some (if L jb then cb else zb)
 oa : L ja = true → L ia = true
 ob : L jb = true → L ib = true
variable {vals : List (Nat × Nat × AV)} {base : List (Nat × AV)} {mem : List (Nat × LObj)} {a b ia ib ja jb : Nat} {za zb ca cb : LObj} {L : Nat → Bool} {s : SS}
theorem TwoI.swap (h : TwoI vals base mem a b ia ib ja jb za zb ca cb L s) : TwoI vals base mem b a ib ia jb ja zb za cb ca L s := ⟨h.calm, h.base, h.mem, h.fb, h.fa, h.tb, h.ta, h.hb, h.ha, h.ob, h.oa⟩
theorem aOp_calm {K : SS → Prop} {i : Nat} {o : Oper} {r : AV} (ho : ops[i]? = some o) (hd : ysj N o) (hg : o.guard = none) (hy : ybw P s.h (evF s.t) o.op o.type r) (k : K ⟨yes s.t o.dst r, s.h⟩) : aOp P N ops lf i K s := by
 unfold aOp
 simp only [ho]
 refine ⟨hd, .inl ⟨r, .inl ⟨?_, hy⟩, k⟩⟩
 unfold yaj
 rw [hg]
theorem aOp_loud {K : SS → Prop} {i : Nat} {o : Oper} {s' : SS} (ho : ops[i]? = some o) (hd : ysj N o) (hg : o.guard = none) (hl : lf o = true) (hy : ych P N o s (· = s')) (k : K s') : aOp P N ops lf i K s := by
 unfold aOp
 simp only [ho]
 refine ⟨hd, .inr ⟨hl, ?_, _, hy, fun s2 e => e ▸ k⟩⟩
 unfold yaj
 rw [hg]
def zec : Nat → List Oper → Bool
 | _, [] => true
 | k, o :: l => (o.after.toList.all fun e => !(Region.binds .any e) || Nat.blt e.on k) && zec (k + 1) l
theorem ywe : ∀ {l : List Oper} {j : Nat}, zec j l = true → ∀ (k : Nat) (o : Oper), l[k]? = some o → ∀ e ∈ o.after, Region.binds .any e = true → e.on < j + k
 | [], j, _, k, o, ho, _, _, _ => by simp at ho
 | o1 :: l, j, h, 0, o, ho, e, he, hb => by
  simp only [List.getElem?_cons_zero, Option.some.injEq] at ho
  subst ho
  simp only [zec, Bool.and_eq_true, List.all_eq_true] at h
  have := h.1 e (by simpa using he)
  simpa [hb] using this
 | o1 :: l, j, h, k + 1, o, ho, e, he, hb => by
  simp only [List.getElem?_cons_succ] at ho
  simp only [zec, Bool.and_eq_true] at h
  have := ywe h.2 k o ho e he hb
  omega
theorem zkj : ∀ {t : List (Nat × AV)} {x : Nat} {y : AV}, look t x = some y → (x, y) ∈ t
 | [], x, y, h => by simp [look] at h
 | (a, b) :: t, x, y, h => by
  simp only [look] at h
  cases hb : Nat.beq x a with
  | true =>
   rw [hb] at h
   simp only [Option.some.injEq] at h
   subst h
   rw [Nat.eq_of_beq_eq_true hb]; simp
  | false => rw [hb] at h; exact List.mem_cons_of_mem _ (zkj h)
end
end
section
open Go.RowKit
variable {P : Program} {N : Nat} {ops : Array Oper} {lf : Oper → Bool} {Q : SS → Prop}
def yjp (hs : List Nat) (t : Nat → Option AV) : Nat → Option AV := fun x => match ylg x hs with | true => (t x).map fun _ => .any | false => t x
def zmf (hs : List Nat) : List (Nat × AV) → List (Nat × AV)
 | [] => []
 | (x, y) :: t => (x, match ylg x hs with | true => .any | false => y) :: zmf hs t
theorem zfs {hs : List Nat} : ∀ t : List (Nat × AV), look (zmf hs t) = yjp hs (look t)
 | [] => by funext z; simp only [zmf, yjp, look]; split <;> rfl
 | (x, y) :: t => by
  have ih := zfs (hs := hs) t
  funext z
  simp only [zmf, look]
  by_cases hz : z = x
  ·subst hz
   simp only [yjp, Nat.beq_refl]
   split <;> rfl
  ·rw [show Nat.beq z x = false from ydm hz]
   simp only [ih, yjp, show Nat.beq z x = false from ydm hz]
def zkk (okA : AV → Bool) (hs : List Nat) : List (Nat × AV) → Bool
 | [] => true
 | (x, y) :: t => (match ylg x hs with | true => true | false => okA y) && zkk okA hs t
theorem yxk {okA : AV → Bool} {hs : List Nat} : ∀ {t : List (Nat × AV)}, zkk okA hs t = true → ∀ x y, look t x = some y → ylg x hs = false → okA y = true
 | [], _, x, y, h, _ => by simp [look] at h
 | (a, b) :: t, hl, x, y, h, hm => by
  simp only [zkk, Bool.and_eq_true] at hl
  simp only [look] at h
  by_cases hx : x = a
  ·subst hx
   rw [Nat.beq_refl] at h
   cases h
   rw [hm] at hl
   exact hl.1
  ·rw [show Nat.beq x a = false from ydm hx] at h
   exact yxk hl.2 x y h hm
def yze (base : List (Nat × AV)) (A : List (Nat × Nat × AV)) (L : Nat → Bool) : Nat → Option AV := fun x => match A.find? (fun v => Nat.beq v.2.1 x && L v.1) with | some v => some v.2.2 | none => look base x
def zsw (tl : List (Nat × AV)) (op : Op) : Bool := op.operands.toList.all fun x => match x with
 | .tmp s => (match look tl s with | some _ => Nat.blt s 1000000 | none => false)
 | _ => true
def zin (T : Nat → Option Ty) (t : List (Nat × AV)) (h : List (Nat × Option LObj)) (op : Op) (ty : TypeId) : Option AV := match op with
 | .nilCheck x => (match evF (look t) x with
  | some (.lp id off) => (match ypn (yad h id) with | some _ => some (.lp id off) | none => none)
  | some (.dp r o) => some (.dp r o)
  | _ => none)
 | op => yqu T t h op ty
theorem stepN_sound {T : Nat → Option Ty} (hT : TOK P T) {t : List (Nat × AV)} {h : List (Nat × Option LObj)} {op : Op} {ty : TypeId} {r : AV} (hr : zin T t h op ty = some r) : ybw P (yad h) (evF (look t)) op ty r := by
 unfold zin at hr
 split at hr
 ·split at hr
  ·rename_i id off hx
   split at hr
   ·rename_i xs hc
    cases hr
    exact ykp hx hc
   ·cases hr
  ·rename_i hx
   cases hr
   exact yjo hx
  ·cases hr
 ·exact ymf hT hr
theorem yyw {T : Nat → Option Ty} (hT : TOK P T) {t : Nat → Option AV} {tl : List (Nat × AV)} {h : List (Nat × Option LObj)} {op : Op} {ty : TypeId} {r : AV} (ht : ∀ x y, look tl x = some y → t x = some y) (hr : zin T tl h op ty = some r) (hk : zsw tl op = true) : ybw P (yad h) (evF t) op ty r := by
 refine (stepN_sound hT hr).congr fun x hx => ?_
 have := List.all_eq_true.1 hk x (by simpa using hx)
 cases x with
 | tmp s =>
  simp only at this
  split at this
  ·rename_i y hy
   simp only [evF]
   split
   ·rw [ht s y hy, hy]
   ·rfl
  ·cases this
 | _ => rfl
def zdu (T : Nat → Option Ty) (ops : Array Oper) (okA : AV → Bool) (req : List (Nat × AV)) (A0 : List (Nat × Nat × AV)) (h0 h1 : List (Nat × Option LObj)) (hs : List Nat) (base : List (Nat × AV)) : List (Nat × Nat × AV) → Prop
 | [] => True
 | a :: A => (∃ (o : Oper) (tl : List (Nat × AV)), ops[a.1]? = some o ∧ o.dst = some a.2.1 ∧ o.guard = none ∧ tl = ((A0.filter fun b => yik ops ops.size a.1 b.1).map fun b => b.2) ++ req ∧ zin T tl h0 o.op o.type = some a.2.2 ∧ zin T tl h1 o.op o.type = some a.2.2 ∧ zsw tl o.op = true ∧ ylg a.2.1 hs = false ∧ okA a.2.2 = true ∧ look base a.2.1 = none) ∧ zdu T ops okA req A0 h0 h1 hs base A
theorem zdu.get {T : Nat → Option Ty} {okA : AV → Bool} {req : List (Nat × AV)} {A0 : List (Nat × Nat × AV)} {h0 h1 : List (Nat × Option LObj)} {hs : List Nat} {base : List (Nat × AV)} : ∀ {A : List (Nat × Nat × AV)}, zdu T ops okA req A0 h0 h1 hs base A → ∀ a ∈ A, ∃ (o : Oper) (tl : List (Nat × AV)), ops[a.1]? = some o ∧ o.dst = some a.2.1 ∧ o.guard = none ∧ tl = ((A0.filter fun b => yik ops ops.size a.1 b.1).map fun b => b.2) ++ req ∧ zin T tl h0 o.op o.type = some a.2.2 ∧ zin T tl h1 o.op o.type = some a.2.2 ∧ zsw tl o.op = true ∧ ylg a.2.1 hs = false ∧ okA a.2.2 = true ∧ look base a.2.1 = none
 | [], _, a, h => by cases h
 | b :: A, hA, a, h => by
  rcases List.mem_cons.1 h with rfl | h
  ·exact hA.1
  ·exact zdu.get hA.2 a h
def zng (base : List (Nat × AV)) (hs : List Nat) (d : Nat) : List (Nat × AV) → Prop
 | [] => True
 | (x, y) :: r => (look base x = some y ∧ ylg x hs = false ∧ Nat.beq x d = false) ∧ zng base hs d r
theorem zng.get {base : List (Nat × AV)} {hs : List Nat} {d : Nat} : ∀ {r : List (Nat × AV)}, zng base hs d r → ∀ x y, (x, y) ∈ r → look base x = some y ∧ ylg x hs = false ∧ x ≠ d
 | [], _, x, y, h => by cases h
 | (u, v) :: r, hr, x, y, h => by
  rcases List.mem_cons.1 h with e | h
  ·cases e
   exact ⟨hr.1.1, hr.1.2.1, fun e => by have := hr.1.2.2; rw [e, Nat.beq_refl] at this; cases this⟩
  ·exact zng.get hr.2 x y h
theorem beqN {a b : Nat} (h : Nat.beq a b = true) : a = b := Nat.eq_of_beq_eq_true h
section
variable {base : List (Nat × AV)} {A : List (Nat × Nat × AV)} {L : Nat → Bool}
theorem zdf (hb : ∀ a ∈ A, look base a.2.1 = none) {x : Nat} {y : AV} (h : look base x = some y) : yze base A L x = some y := by
 unfold yze
 split
 ·rename_i v hv
  have h1 := List.mem_of_find?_eq_some hv
  have h2 := List.find?_some hv
  simp only [Bool.and_eq_true] at h2
  have := hb v h1
  rw [beqN h2.1, h] at this
  cases this
 ·exact h
theorem find_nd (hd : (A.map (·.2.1)).Nodup) {a : Nat × Nat × AV} (ha : a ∈ A) (hL : L a.1 = true) : A.find? (fun v => Nat.beq v.2.1 a.2.1 && L v.1) = some a := by
 induction A with
 | nil => cases ha
 | cons b A ih =>
  rw [List.map_cons, List.nodup_cons] at hd
  rw [List.find?_cons]
  rcases List.mem_cons.1 ha with rfl | ha
  ·simp [hL]
  ·have hne : b.2.1 ≠ a.2.1 := fun e => hd.1 (by rw [e]; exact List.mem_map.2 ⟨a, ha, rfl⟩)
   rw [show Nat.beq b.2.1 a.2.1 = false from ydm hne]
   simp only [Bool.false_and]
   exact ih hd.2 ha
theorem zpz (hd : (A.map (·.2.1)).Nodup) {a : Nat × Nat × AV} (ha : a ∈ A) (hL : L a.1 = true) : yze base A L a.2.1 = some a.2.2 := by
 unfold yze
 rw [find_nd hd ha hL]
theorem zpy (hd : (A.map (·.2.1)).Nodup) (hi : (A.map (·.1)).Nodup) {a : Nat × Nat × AV} (ha : a ∈ A) : yze base A (fun k => if k = a.1 then true else L k) = yes (yze base A L) (some a.2.1) a.2.2 := by
 funext x
 simp only [yes]
 by_cases hx : x = a.2.1
 ·subst hx
  rw [if_pos rfl]
  exact zpz hd ha (by simp)
 ·rw [if_neg hx]
  unfold yze
  have : ∀ l : List (Nat × Nat × AV), (∀ b ∈ l, b ∈ A) → l.find? (fun v => Nat.beq v.2.1 x && (if v.1 = a.1 then true else L v.1)) = l.find? (fun v => Nat.beq v.2.1 x && L v.1) := by
   intro l hl
   induction l with
   | nil => rfl
   | cons b l ih =>
    rw [List.find?_cons, List.find?_cons, ih fun c hc => hl c (by simp [hc])]
    by_cases hb : b.1 = a.1
    ·have hba : b = a := by
      have h1 := hl b (by simp)
      obtain ⟨i, hi1⟩ := List.getElem?_of_mem h1
      obtain ⟨j, hj1⟩ := List.getElem?_of_mem ha
      have hlt := (List.getElem?_eq_some_iff.1 hi1).1
      have := (List.getElem?_inj (i := i) (j := j) (by simpa using hlt) hi).1 (by rw [List.getElem?_map, List.getElem?_map, hi1, hj1]; simp [hb])
      subst this
      rw [hi1] at hj1
      exact Option.some.inj hj1
     subst hba
     rw [show Nat.beq b.2.1 x = false from ydm (Ne.symm hx)]
     rfl
    ·rw [if_neg hb]
  rw [this A fun b hb => hb]
theorem tbl_all (hL : ∀ a ∈ A, L a.1 = true) : yze base A L = look (A.map (fun a => a.2) ++ base) := by
 funext x
 unfold yze
 induction A with
 | nil => rfl
 | cons a A ih =>
  rw [List.find?_cons, hL a (by simp), Bool.and_true, List.map_cons, List.cons_append]
  have ih := ih fun b hb => hL b (by simp [hb])
  obtain ⟨i, q, v⟩ := a
  simp only [look]
  by_cases hx : x = q
  ·subst hx; simp
  ·rw [show Nat.beq q x = false from ydm (Ne.symm hx), show Nat.beq x q = false from ydm hx]
   exact ih
theorem hide_upd {hs : List Nat} {d : Nat} {t : Nat → Option AV} {v : AV} (hv : ylg d hs = false) : yjp hs (yes t (some d) v) = yes (yjp hs t) (some d) v := by
 funext x
 by_cases hx : x = d
 ·subst hx; simp [yjp, yes, hv]
 ·simp [yjp, yes, hx]
theorem zff {hs : List Nat} {t : Nat → Option AV} {x : Nat} {v : AV} (h : t x = some v) (hv : ylg x hs = false) : yjp hs t x = some v := by simp [yjp, h, hv]
theorem zkc {okA : AV → Bool} {hs : List Nat} {t : Nat → Option AV} (h : ∀ x y, t x = some y → ylg x hs = false → okA y = true) {x : Nat} {y : AV} (hx : yjp hs t x = some y) : y = .any ∨ (t x = some y ∧ okA y = true) := by
 simp only [yjp] at hx
 split at hx
 ·cases ht : t x with
  | none => rw [ht] at hx; cases hx
  | some u => rw [ht] at hx; cases hx; exact .inl rfl
 ·rename_i hm; exact .inr ⟨hx, h x y hx hm⟩
theorem zfg {hs : List Nat} {t : Nat → Option AV} {x : Nat} {y : AV} (hx : yjp hs t x = some y) : ∃ z, t x = some z := by
 simp only [yjp] at hx
 split at hx
 ·cases ht : t x with
  | none => rw [ht] at hx; cases hx
  | some u => exact ⟨u, rfl⟩
 ·exact ⟨y, hx⟩
end
theorem zor : ∀ {l : List Nat} {listed : Array Bool} {k : Nat}, (yhh l listed).getD k false = true → listed.getD k false = true ∨ k ∈ l
 | [], listed, k, h => .inl h
 | x :: l, listed, k, h => by
  rcases zor (l := l) h with h | h
  ·by_cases hx : x = k
   ·exact .inr (by simp [hx])
   ·refine .inl ?_
    rw [Array.getD_eq_getD_getElem?, Array.getElem?_setIfInBounds, if_neg hx] at h
    rw [Array.getD_eq_getD_getElem?]; exact h
  ·exact .inr (by simp [h])
theorem zjc : ∀ {l : List Nat} {listed : Array Bool}, (yhh l listed).size = listed.size
 | [], _ => rfl
 | x :: l, listed => by rw [yhh, zjc, Array.size_setIfInBounds]
theorem zhp : ∀ {l : List Nat} {listed : Array Bool} {k : Nat}, (listed.getD k false = true ∨ (k ∈ l ∧ k < listed.size)) → (yhh l listed).getD k false = true
 | [], listed, k, h => by
  rcases h with h | h
  ·exact h
  ·cases h.1
 | x :: l, listed, k, h => by
  refine zhp (l := l) ?_
  by_cases hx : x = k
  ·subst hx
   left
   rcases h with h | h
   ·rw [Array.getD_eq_getD_getElem?, Array.getElem?_setIfInBounds, if_pos rfl]
    rw [Array.getD_eq_getD_getElem?] at h
    by_cases hs : x < listed.size
    ·rw [if_pos hs]; rfl
    ·rw [Array.getElem?_eq_none (by omega)] at h; cases h
   ·rw [Array.getD_eq_getD_getElem?, Array.getElem?_setIfInBounds, if_pos rfl, if_pos h.2]; rfl
  ·rcases h with h | h
   ·left
    rw [Array.getD_eq_getD_getElem?, Array.getElem?_setIfInBounds, if_neg hx]
    rw [Array.getD_eq_getD_getElem?] at h
    exact h
   ·right
    rw [Array.size_setIfInBounds]
    exact ⟨by simpa [Ne.symm hx] using h.1, h.2⟩
theorem arr_extD {a b : Array Bool} (hs : a.size = b.size) (h : ∀ k, k < a.size → a.getD k false = b.getD k false) : a = b := by
 apply Array.ext hs
 intro i h1 h2
 have := h i h1
 rw [Array.getD_eq_getD_getElem?, Array.getD_eq_getD_getElem?, Array.getElem?_eq_getElem h1, Array.getElem?_eq_getElem h2] at this
 simpa using this
def zfm (W : List Nat) (L : Nat → Bool) : Nat := (W.filter fun k => !L k).length
theorem left_zero {W : List Nat} {L : Nat → Bool} (h : zfm W L = 0) : ∀ k ∈ W, L k = true := fun k hk => by
 have := List.filter_eq_nil_iff.1 (List.eq_nil_of_length_eq_zero h) k hk
 simpa using this
theorem left_pos {W : List Nat} {L : Nat → Bool} {n : Nat} (h : zfm W L = n + 1) : ∃ k ∈ W, L k = false := by
 unfold zfm at h
 obtain ⟨k, l, e⟩ := List.exists_cons_of_length_eq_add_one h
 have : k ∈ W.filter fun k => !L k := by rw [e]; simp
 obtain ⟨h1, h2⟩ := List.mem_filter.1 this
 exact ⟨k, h1, by simpa using h2⟩
theorem left_set {W : List Nat} {L : Nat → Bool} (hnd : W.Nodup) {i : Nat} (hi : i ∈ W) (hL : L i = false) : zfm W (fun k => if k = i then true else L k) + 1 = zfm W L := by
 unfold zfm
 induction W with
 | nil => cases hi
 | cons b W ih =>
  rw [List.nodup_cons] at hnd
  rcases List.mem_cons.1 hi with rfl | hi
  ·have : W.filter (fun k => !(if k = i then true else L k)) = W.filter fun k => !L k := List.filter_congr fun k hk => by
    have : k ≠ i := fun e => hnd.1 (e ▸ hk)
    simp [this]
   rw [List.filter_cons_of_neg (by simp), this, List.filter_cons_of_pos (by simp [hL]), List.length_cons]
  ·have hb : b ≠ i := fun e => hnd.1 (e ▸ hi)
   have := ih hnd.2 hi
   cases hb2 : L b with
   | true =>
    rw [List.filter_cons_of_neg (by simp [hb, hb2]), List.filter_cons_of_neg (by simp [hb2])]
    exact this
   | false =>
    rw [List.filter_cons_of_pos (by simp [hb, hb2]), List.filter_cons_of_pos (by simp [hb2]), List.length_cons, List.length_cons, this]
def postOk (ops : Array Oper) (listed : Array Bool) (W : List Nat) : Bool := (List.range ops.size).all fun i => listed.getD i false || ylg i W || W.all fun w => yik ops ops.size i w
theorem hide_nil {t : Nat → Option AV} : yjp [] t = t := rfl
theorem make_late {T : Nat → Option Ty} (hT : TOK P T) {o : Oper} {ti e es eb sz d : Nat} {ea ag : Bool} {ez z : List Value} {x y : Operand} {m : Nat} {t : Nat → Option AV} {h : List (Nat × Option LObj)} (id : Nat) (hl : ∀ x y, t x = some y → ylg x [] = false → (!ment id y) = true) (ho : o.op = .makeSlice ti x y) (hd : o.dst = some d) (hdN : Nat.blt d N = true) (hk : T ti = some ⟨.slc e es ea eb ez, sz, ag, z⟩) (hone : ez.all Value.oneCell' = true)
  (hx : evF t x = some (.v (.int .i64 m))) (hy : evF t y = some (.v (.int .i64 m))) (hm : m ≤ 4294967296 ∧ eb * m ≤ 281474976710656) (h2 : ycb id h = true) : ych P N o ⟨t, yad h⟩ (· = ⟨yes (yjp [] t) (some d) (.ls id es m), yad ((id, some (.vec (yms m (yln ez)))) :: h)⟩) := by
 have hf := yho (t := []) (id := id) rfl h2
 rw [hide_nil, ← yon]
 exact yro hT ho hd (by simpa using hdN) id hk hone hx hy hm ⟨hf.1, fun x y hx => by simpa using hl x y hx rfl, hf.2.2⟩
theorem zbr {T : Nat → Option Ty} (hT : TOK P T) (okA : AV → Bool) (A : List (Nat × Nat × AV)) (j d : Nat) (hs : List Nat) (z : AV) {oj : Oper} {base req : List (Nat × AV)} {h0 h1 : List (Nat × Option LObj)} (fuel : Nat) {n : Nat} {listed : Array Bool}
  (hn : n = fuel + (A.length + 1)) (hsz : listed.size = ops.size) (hbk : zec 0 ops.toList = true) (hW : yef (j :: A.map (·.1)) = true) (hdn : yef (A.map (·.2.1)) = true) (hfree : ((j :: A.map (·.1)).all fun k => !listed.getD k false) = true) (hpost : postOk ops listed (j :: A.map (·.1)) = true)
  (hd : (A.all fun a => !Nat.beq a.2.1 d) = true) (hreq : zng base hs d req) (hbl : zkk okA hs base = true) (hA : zdu T ops okA req A h0 h1 hs base A) (hoj : ops[j]? = some oj) (hgj : oj.guard = none) (hlj : lf oj = true)
  (hloud : ∀ t : Nat → Option AV, (∀ x y, look base x = some y → t x = some y) → (∀ x y, t x = some y → ylg x hs = false → okA y = true) → ych P N oj ⟨t, yad h0⟩ (· = ⟨yes (yjp hs t) (some d) z, yad h1⟩))
  (k : zqd P N ops lf Q fuel (yhh (j :: A.map (·.1)) listed) (S ((d, z) :: zmf hs (A.map (fun a => a.2) ++ base)) h1)) : zqd P N ops lf Q n listed (S base h0) := by
 intro hDst hcl
 have hback : ∀ (k : Nat) (o : Oper), ops[k]? = some o → ∀ e ∈ o.after, Region.binds .any e = true → e.on < k := fun k o ho e he hb => by
  have := ywe hbk k o (by simpa using ho) e he hb; omega
 have hWn : (j :: A.map (·.1)).Nodup := yqp hW
 have hdN : (A.map (·.2.1)).Nodup := yqp hdn
 have hiN : (A.map (·.1)).Nodup := (List.nodup_cons.1 hWn).2
 have hjA : ∀ a ∈ A, a.1 ≠ j := fun a ha e => (List.nodup_cons.1 hWn).1 (List.mem_map.2 ⟨a, ha, e⟩)
 have hbn : ∀ a ∈ A, look base a.2.1 = none := fun a ha => by
  obtain ⟨_, _, _, _, _, _, _, _, _, _, _, h⟩ := hA.get a ha; exact h
 have hdA : ∀ a ∈ A, a.2.1 ≠ d := fun a ha e => by
  have := List.all_eq_true.1 hd a ha
  rw [e, Nat.beq_refl] at this; cases this
 generalize hWe : j :: A.map (·.1) = W at *
 have hWj : j ∈ W := by rw [← hWe]; simp
 have hWA : ∀ a ∈ A, a.1 ∈ W := fun a ha => by rw [← hWe]; simp; exact .inr ⟨_, _, ha⟩
 have hWc : ∀ i ∈ W, i = j ∨ ∃ a ∈ A, a.1 = i := fun i hi => by
  rw [← hWe] at hi
  rcases List.mem_cons.1 hi with h | h
  ·exact .inl h
  ·obtain ⟨a, ha, e⟩ := List.mem_map.1 h
   exact .inr ⟨a, ha, e⟩
 have hlen : W.length = A.length + 1 := by rw [← hWe]; simp
 have hWs : ∀ i ∈ W, i < listed.size := fun i hi => by
  rw [hsz]
  rcases hWc i hi with rfl | ⟨a, ha, rfl⟩
  ·exact (Array.getElem?_eq_some_iff.1 hoj).1
  ·obtain ⟨o, _, ho, _⟩ := hA.get a ha
   exact (Array.getElem?_eq_some_iff.1 ho).1
 -- the states
 let st : (Nat → Bool) → SS := fun L => if L j then ⟨yes (yjp hs (yze base A L)) (some d) z, yad h1⟩ else ⟨yze base A L, yad h0⟩
 have main : ∀ (r : Nat) (L : Nat → Bool) (lst : Array Bool), zfm W L = r → lst.size = listed.size → ypk ops lst → (∀ i, i < listed.size → lst.getD i false = (listed.getD i false || (ylg i W && L i))) → znj P N ops lf Q (fuel + r) lst (st L) := by
  intro r
  induction r with
  | zero =>
   intro L lst hr hsz2 hc hlst
   have hall := left_zero hr
   have e1 : lst = yhh W listed := arr_extD (by rw [zjc, hsz2]) fun i hi => by
    rw [hsz2] at hi
    rw [hlst i hi]
    by_cases hiW : i ∈ W
    ·rw [yej.2 hiW, hall i hiW, zhp (.inr ⟨hiW, hi⟩)]; simp
    ·rw [show ylg i W = false by rw [← Bool.not_eq_true, yej]; exact hiW]
     simp only [Bool.false_and, Bool.or_false]
     cases hb : listed.getD i false with
     | true => exact (zhp (.inl hb)).symm
     | false =>
      cases hb2 : (yhh W listed).getD i false with
      | false => rfl
      | true =>
       rcases zor hb2 with h | h
       ·rw [hb] at h; cases h
       ·exact absurd h hiW
   have e2 : st L = S ((d, z) :: zmf hs (A.map (fun a => a.2) ++ base)) h1 := by
    simp only [st, hall j hWj, if_true]
    rw [tbl_all fun a ha => hall _ (hWA a ha), ← zfs, ydi]
    rfl
   rw [e1, e2]
   exact k hDst (e1 ▸ hc)
  | succ r ih =>
   intro L lst hr hsz2 hc hlst
   obtain ⟨w0, hw0, hL0⟩ := left_pos hr
   have hget : ∀ i, i < ops.size → lst[i]? = some (lst.getD i false) := fun i hi => by
    rw [Array.getD_eq_getD_getElem?, Array.getElem?_eq_getElem (show i < lst.size by omega)]; rfl
   -- the one that runs is one of these
   have key : ∀ i ∈ Region.ready .any ops lst, i ∈ W ∧ L i = false := by
    intro i hi
    obtain ⟨g1, o, ho, g2⟩ := mem_ready.1 hi
    have hlt := (Array.getElem?_eq_some_iff.1 ho).1
    have hf : lst.getD i false = false := by
     rw [Array.getD_eq_getD_getElem?, hget i hlt] at g1
     simpa using g1
    have hf2 := hlst i (by omega)
    rw [hf] at hf2
    have hf2 := Bool.or_eq_false_iff.1 hf2.symm
    have hp := List.all_eq_true.1 hpost i (List.mem_range.2 hlt)
    rw [hf2.1, Bool.false_or, Bool.or_eq_true] at hp
    rcases hp with hp | hp
    ·rw [hp, Bool.true_and] at hf2
     exact ⟨yej.1 hp, hf2.2⟩
    ·exfalso
     have h1 := List.all_eq_true.1 hp w0 hw0
     have h2 := ykg hc _ _ _ o ho g2 h1
     rw [hlst w0 (hWs w0 hw0), yej.2 hw0, hL0] at h2
     have h3 := List.all_eq_true.1 hfree w0 hw0
     rw [Bool.and_false, Bool.or_false] at h2
     rw [h2] at h3; cases h3
   refine ⟨fun hnil => ?_, fun i hi => ?_⟩
   ·exfalso
    have hall : ∀ i, i < ops.size → lst.getD i false = true := by
     intro i
     induction i using Nat.strongRecOn with
     | _ i ih2 =>
      intro hi
      cases hb : lst.getD i false with
      | true => rfl
      | false =>
       have ho : ops[i]? = some (ops[i]'hi) := Array.getElem?_eq_getElem hi
       have : i ∈ Region.ready .any ops lst := mem_ready.2 ⟨by rw [Array.getD_eq_getD_getElem?, hget i hi, hb]; rfl, _, ho, fun e he hbd => by
        have h9 := hback i _ ho e he hbd
        exact ih2 e.on h9 (by omega)⟩
       rw [hnil] at this
       cases this
    have h2 := hall w0 (by rw [← hsz]; exact hWs w0 hw0)
    rw [hlst w0 (hWs w0 hw0), yej.2 hw0, hL0] at h2
    have h3 := List.all_eq_true.1 hfree w0 hw0
    rw [Bool.and_false, Bool.or_false] at h2
    rw [h2] at h3; cases h3
   ·obtain ⟨hiW, hiL⟩ := key i hi
    have hc' := hc.set hi
    have hnext := ih (fun k => if k = i then true else L k) (lst.setIfInBounds i true) (by have := left_set hWn hiW hiL; omega) (by rw [Array.size_setIfInBounds]; exact hsz2) hc' (fun q hq => by
     rw [Array.getD_eq_getD_getElem?, Array.getElem?_setIfInBounds]
     by_cases hqi : i = q
     ·subst hqi
      rw [if_pos rfl, if_pos (by omega), yej.2 hiW]; simp
     ·rw [if_neg hqi, if_neg (fun e => hqi e.symm), ← hlst q hq, Array.getD_eq_getD_getElem?])
    rcases hWc i hiW with rfl | ⟨a, ha, rfl⟩
    ·refine aOp_loud hoj (hDst _ _ hoj) hgj hlj (s' := st fun k => if k = i then true else L k) ?_ hnext
     have e1 : st L = ⟨yze base A L, yad h0⟩ := by simp only [st, hiL]; rfl
     have e2 : st (fun k => if k = i then true else L k) = ⟨yes (yjp hs (yze base A L)) (some d) z, yad h1⟩ := by
      simp only [st, if_true]
      have : yze base A (fun k => if k = i then true else L k) = yze base A L := by
       funext x
       unfold yze
       have : ∀ l : List (Nat × Nat × AV), (∀ b ∈ l, b ∈ A) → l.find? (fun v => Nat.beq v.2.1 x && (if v.1 = i then true else L v.1)) = l.find? (fun v => Nat.beq v.2.1 x && L v.1) := by
        intro l hl
        induction l with
        | nil => rfl
        | cons b l ih => rw [List.find?_cons, List.find?_cons, ih fun c hc => hl c (by simp [hc]), if_neg (hjA b (hl b (by simp)))]
       rw [this A fun b hb => hb]
      rw [this]
     rw [e1, e2]
     refine hloud _ (fun x y hx => zdf hbn hx) fun x y hx hm => ?_
     unfold yze at hx
     split at hx
     ·rename_i v hv
      cases hx
      obtain ⟨_, _, _, _, _, _, _, _, _, _, hlw, _⟩ := hA.get v (List.mem_of_find?_eq_some hv)
      exact hlw
     ·exact yxk hbl x y hx hm
    ·obtain ⟨o, tl, ho, hod, hog, htl, hr0, hr1, hkn, hm, _, _⟩ := hA.get a ha
     obtain ⟨_, o2, ho2, g2⟩ := mem_ready.1 hi
     rw [ho] at ho2
     cases ho2
     -- the operands stand where they should
     have hdep : ∀ b ∈ A, yik ops ops.size a.1 b.1 = true → L b.1 = true := fun b hb hw => by
      have h2 := ykg hc _ _ _ o ho g2 hw
      rw [hlst b.1 (hWs _ (hWA b hb)), yej.2 (hWA b hb), Bool.true_and] at h2
      have h3 := List.all_eq_true.1 hfree b.1 (hWA b hb)
      cases hlb : listed.getD b.1 false with
      | true => rw [hlb] at h3; cases h3
      | false => rw [hlb, Bool.false_or] at h2; exact h2
     have hmem : ∀ x y, look tl x = some y → (∃ b ∈ A, L b.1 = true ∧ b.2 = (x, y)) ∨ (x, y) ∈ req := fun x y hx => by
      have hx := zkj hx
      rw [htl] at hx
      rcases List.mem_append.1 hx with h | h
      ·obtain ⟨b, hb, e⟩ := List.mem_map.1 h
       obtain ⟨hb1, hb2⟩ := List.mem_filter.1 hb
       exact .inl ⟨b, hb1, hdep b hb1 hb2, e⟩
      ·exact .inr h
     have hadd : st (fun k => if k = a.1 then true else L k) = ⟨yes (st L).t o.dst a.2.2, (st L).h⟩ := by
      rw [hod]
      have hja : (j = a.1) = False := by simp; exact fun e => hjA a ha e.symm
      simp only [st, hja, if_false]
      cases hj : L j with
      | false => simp only [Bool.false_eq_true, if_false]; rw [zpy hdN hiN ha]
      | true =>
       simp only [if_true]
       rw [zpy hdN hiN ha, hide_upd hm, zhd]
       intro q hq e
       cases hq; cases e
       exact hdA a ha rfl
     rw [hadd] at hnext
     refine aOp_calm (r := a.2.2) ho (hDst _ _ ho) hog ?_ hnext
     cases hj : L j with
     | false =>
      have e1 : st L = ⟨yze base A L, yad h0⟩ := by simp only [st, hj]; rfl
      rw [e1]
      refine yyw hT (fun x y hx => ?_) hr0 hkn
      rcases hmem x y hx with ⟨b, hb, hbL, e⟩ | h
      ·have := zpz (base := base) hdN hb hbL
       rw [e] at this; exact this
      ·exact zdf hbn (hreq.get x y h).1
     | true =>
      have e1 : st L = ⟨yes (yjp hs (yze base A L)) (some d) z, yad h1⟩ := by simp only [st, hj, if_true]
      rw [e1]
      refine yyw hT (fun x y hx => ?_) hr1 hkn
      simp only [yes]
      rcases hmem x y hx with ⟨b, hb, hbL, e⟩ | h
      ·have h9 := zpz (base := base) hdN hb hbL
       have hne := hdA b hb
       obtain ⟨_, _, _, _, _, _, _, _, _, hmb, _, _⟩ := hA.get b hb
       rw [e] at h9 hne hmb
       rw [if_neg hne]
       exact zff h9 hmb
      ·obtain ⟨q1, q2, q3⟩ := hreq.get x y h
       rw [if_neg q3]
       exact zff (zdf hbn q1) q2
 have h0L : ∀ k, (fun _ : Nat => false) k = false := fun _ => rfl
 have := main (A.length + 1) (fun _ => false) listed (by unfold zfm; rw [List.filter_eq_self.2 (by simp)]; exact hlen) rfl hcl (fun i hi => by simp)
 have e1 : st (fun _ => false) = S base h0 := by
  simp only [st, Bool.false_eq_true, if_false]
  have : yze base A (fun _ => false) = look base := by
   funext x
   unfold yze
   rw [List.find?_eq_none.2 (by simp)]
  rw [this]; rfl
 rw [e1] at this
 rw [hn]; exact this
end
set_option maxHeartbeats 8000000
section
open Go.RowKit
theorem portto_con (g : GraphD) (v : Int) (u : Int) (ls : List Lk) (h0 : 0 ≤ v) (hv : g.ports[v.toNat]? = some ls) (hlen : ls.length ≤ 5000) : Con Tryz.prog 146 [yin g, i64 v, i64 u] (i64 (yia ls u)) := by
 refine yan Tryz.func146 rfl rfl Tryz.ntmps146 Tryz.results146 rfl rfl ?_
 (try refine zy ?_)
 refine ycy (α := Nat) (fun k => [(15, i64 k), (14, i64 ls.length), (13, yhn ls), (2, i64 u)]) (fun k => []) (fun k => ls.length - k) (fun k => k ≤ ls.length ∧ ∀ (j : Nat) (y : Lk), j < k → ls[j]? = some y → y.1 ≠ u) 0 ⟨by omega, by omega⟩ (by exact zs) (by exact zh) ?_
 intro k ⟨hk, hok⟩
 (try refine zy ?_)
 refine yag rfl (fun h => ?_) (fun h => ?_)
 ·simp at h
  obtain ⟨x, hx⟩ := ycz h
  (try refine zy ?_)
  refine yag rfl (fun h1 => ?_) (fun h1 => ?_)
  ·simp at h1
   (try refine zy ?_)
   refine yaf ?_; refine ⟨_, rfl, ?_⟩
   exact yae (yxu hx h1 hok).symm
  ·simp at h1
   (try refine zy ?_)
   refine rnd (k + 1) ⟨by omega, fun j y hj hy => ?_⟩ (by omega) (by exact zs) (by exact zh)
   rcases Nat.lt_or_ge j k with h6 | h6
   ·exact hok j y h6 hy
   ·obtain rfl : j = k := by omega
    rw [hx] at hy; cases hy; exact h1
 ·simp at h
  obtain rfl : k = ls.length := by omega
  (try refine zy ?_)
  refine yaf ?_; refine ⟨_, rfl, ?_⟩
  exact yae (yxt fun j y hy => hok j y (List.getElem?_eq_some_iff.1 hy).1 hy).symm
end
section
open Go.RowKit
theorem Frz.boxF {h : Nat → Option LObj} {id off : Nat} {xs ys : List AV} (hx : h id = some (.cells xs)) (hl : xs.length = ys.length) (hc : ∀ y ∈ ys, ydx y = true) (hf : ∀ (i : Nat) (x y : AV), xs[i]? = some x → ys[i]? = some y → Frz h x y) : Frz h (.lp id off) (.dp ys off) := by
 intro B ok0 lv w u hi hr
 obtain ⟨b, n, h1, rfl, h2⟩ := yga hi (by rw [hx]; rfl) (.inr hx) hr
 obtain ⟨_, _, g1, g2, _⟩ := hi.lvat h1
 have := Rel.dp (ok := fun g => (ok0 g ∨ B.mine g) ∧ g < w.heap.size) (w := w) (lv := fun _ => none) (row := ys) (off := off) b 0 (fun j => (w.cell? ⟨b, 0 + j, none⟩).getD undef) ⟨.inr g1, g2⟩ (fun j c hj => ?_) (fun j c hj => ?_)
 ·rwa [Nat.zero_add] at this
 ·obtain ⟨x, hx'⟩ : ∃ x, xs[j]? = some x := ⟨_, List.getElem?_eq_getElem (by have := (List.getElem?_eq_some_iff.1 hj).1; omega)⟩
  obtain ⟨q1, v, q2, _⟩ := h2 j x hx'
  exact ⟨by rw [q2]; rfl, hc c (List.mem_of_getElem? hj)⟩
 ·obtain ⟨x, hx'⟩ : ∃ x, xs[j]? = some x := ⟨_, List.getElem?_eq_getElem (by have := (List.getElem?_eq_some_iff.1 hj).1; omega)⟩
  obtain ⟨_, v, q2, q3⟩ := h2 j x hx'
  rw [q2]
  exact hf j x c hx' hj B ok0 lv w v hi q3
def yof (p : ProgD) (g : GraphD) (k : Nat) : List AV := [zdc p.name, .sl 6 (p.vars.map ydu), .sl 3 (p.rules.map yfb), yaq g.ids, ybd g.ports, i64 (ybt (g.ids.take k)), .ls 15 1 g.ports.length]
def ykd (p : ProgD) (g : GraphD) (k : Nat) : List (Nat × Option LObj) := [(17, some (.cells (yof p g k))), (3, some (.cells [yaq g.ids, ybd g.ports]))]
def zik (g : GraphD) (k : Nat) : List (List AV) := zdn ((ymm g).take k) ++ List.replicate (g.ports.length - k) []
def ymy (g : GraphD) (k : Nat) (l : List Int) : List (List AV) := zdn ((ymm g).take k) ++ (l.map i64) :: List.replicate (g.ports.length - k - 1) []
theorem rowsC0 {g : GraphD} {k : Nat} (hk : k < g.ports.length) : zik g k = ymy g k [] := by
 unfold zik ymy
 rw [show g.ports.length - k = (g.ports.length - k - 1) + 1 by omega, List.replicate_succ]
 simp
theorem ynv {g : GraphD} {k : Nat} (hk : k < g.ports.length) : (zdn ((ymm g).take k)).length = k := by
 simp [zdn, ymm]; omega
theorem rowsC_at {g : GraphD} {k : Nat} {l : List Int} (hk : k < g.ports.length) : (ymy g k l)[k]? = some (l.map i64) := by
 unfold ymy
 rw [List.getElem?_append_right (by rw [ynv hk]; omega), ynv hk, Nat.sub_self]
 rfl
theorem zgp {g : GraphD} {k : Nat} {l : List Int} (hk : k < g.ports.length) : (ymy g k l).length = g.ports.length := by
 unfold ymy
 rw [List.length_append, ynv hk, List.length_cons, List.length_replicate]
 omega
theorem rowsC_next {g : GraphD} {k : Nat} {l : List Int} {x : Int} (hk : k < g.ports.length) : (ymy g k l).set k (l.map i64 ++ [i64 x]) = ymy g k (l ++ [x]) := by
 unfold ymy
 rw [List.set_append_right _ _ (by rw [ynv hk]; omega), ynv hk, Nat.sub_self, List.set_cons_zero]
 simp
theorem rowsC_end {g : GraphD} {k : Nat} {ls : List Lk} (hls : g.ports[k]? = some ls) : ymy g k (ydg g k ls) = zik g (k + 1) := by
 unfold zik ymy
 have e : (ymm g)[k]? = some (ydg g k ls) := by simp [ymm, List.getElem?_mapIdx, hls]
 rw [ycd e]
 simp [zdn, Nat.sub_sub]
theorem newscene_con (p : ProgD) (g : GraphD) (hg : ydd g = true) : Con Tryz.prog 88 [ypd p, yin g] (zbb p g) := by
 have hv := ybp hg
 refine yan Tryz.func88 rfl rfl Tryz.ntmps88 Tryz.results88 rfl rfl ?_
 (try refine zw ?_)
 refine yeb (lf := lf0) zcu rfl ?_
 refine yqb [2, 3, 4] 6 (yaa rfl (yaa rfl (yaa rfl yak))) rfl (by kernel_rfl) ?_
 (try refine zo ?_)
 refine zbr tok (fun y => !ment 15 y) [(0, 10, .agg [zdc p.name, .sl 6 (p.vars.map ydu), .sl 3 (p.rules.map yfb)]), (1, 11, .agg [yaq g.ids, ybd g.ports])] 5 15 [] (.ls 15 1 g.ports.length) (req := [(3, .lp 3 0), (2, .lp 2 0)]) 3 rfl (by kernel_rfl) rfl rfl rfl (by kernel_rfl) (by kernel_rfl) rfl ⟨⟨rfl, rfl, rfl⟩, ⟨rfl, rfl, rfl⟩, trivial⟩ rfl
  ⟨⟨_, [(3, .lp 3 0), (2, .lp 2 0)], rfl, rfl, rfl, by kernel_rfl, by kernel_rfl, by kernel_rfl, by kernel_rfl, rfl, rfl, rfl⟩, ⟨_, [(3, .lp 3 0), (2, .lp 2 0)], rfl, rfl, rfl, by kernel_rfl, by kernel_rfl, by kernel_rfl, by kernel_rfl, rfl, rfl, rfl⟩, trivial⟩ rfl rfl rfl
  (fun t ht hl => make_late tok 15 hl rfl rfl rfl rfl rfl (ht 14 _ rfl) (ht 14 _ rfl) (by constructor <;> omega) rfl) ?_
 refine yar [6, 7, 8] (yaa rfl (yaa rfl (yaa rfl yak))) rfl (by kernel_rfl) ?_
 (try refine zy ?_)
 refine zbp 15 (List.replicate g.ports.length yos) rfl (ztp _ _) ?_
 refine zrd (t' := [(21, i64 (0 : Nat)), (20, i64 g.ports.length), (19, ybd g.ports), (5, .lp 17 0), (3, .lp 3 0)]) (h' := [(17, some (.cells (yof p g 0))), (3, some (.cells [yaq g.ids, ybd g.ports]))] ++ [(15, some (yjq (List.replicate g.ports.length yos)))]) ?_ (by exact zs) (ybq (yal rfl (yal rfl (yal rfl yay)))) 
 refine zdp (f := [(17, some (.cells (yof p g 0))), (3, some (.cells [yaq g.ids, ybd g.ports]))]) 15 1 g.ports.length rfl rfl rfl rfl rfl ?_
 refine yjr (α := Nat) (fun k => [(21, i64 k), (20, i64 g.ports.length), (19, ybd g.ports), (5, .lp 17 0), (3, .lp 3 0)]) (fun k => ykd p g k ++ yek 15 1 (zik g k) []) (fun k => g.ports.length - k) (fun k => k ≤ g.ports.length) 0 (by omega) (by exact zs) (hsE rfl) ?_
 intro k hk
 (try refine zy ?_)
 refine yag rfl (fun h => ?_) (fun h => ?_)
 ·simp at h
  obtain ⟨ls, hls⟩ := ycz h
  obtain ⟨a, ha⟩ := ycz (show k < g.ids.length by omega)
  have hlb := hv.2.2.2.2.2.1 k ls hls
  have hll := ycq h hlb
  (try refine zy ?_)
  refine yjr (α := Nat) (fun j => [(41, i64 j), (40, i64 ls.length), (39, yhn ls), (6, i64 k), (21, i64 k), (20, i64 g.ports.length), (19, ybd g.ports), (5, .lp 17 0), (3, .lp 3 0)]) (fun j => ykd p g (k + 1) ++ yek 15 1 (ymy g k ((ydg g k ls).take j)) []) (fun j => ls.length - j) (fun j => j ≤ ls.length) 0 (by omega) (by exact zs) (hsE ?_) ?_
  ·unfold ykd yof
   rw [yhp _ _ _ ha, List.take_zero, rowsC0 h]
   exact yhw
  intro j hj
  (try refine zy ?_)
  refine yag rfl (fun h2 => ?_) (fun h2 => ?_)
  ·simp at h2
   obtain ⟨l, hl⟩ := ycz h2
   have hl1 := (ybu _ _ _).1 (((ycl _ _ _).1 hlb).1 l (List.mem_of_getElem? hl))
   obtain ⟨ls', hls'⟩ := ycz (show l.1.toNat < g.ports.length by omega)
   have hll' := ycq (show l.1.toNat < g.ports.length by omega) (hv.2.2.2.2.2.1 _ ls' hls')
   (try refine zw ?_)
   refine zA ?_ (h2 := zrn (f := ykd p g (k + 1)) rfl rfl rfl rfl)
   have hblen : (ydg g k ls).length = ls.length := by simp [ydg]
   have hbj : (ydg g k ls)[j]? = some (yia ls' k) := by
    simp only [ydg, List.getElem?_map, hl, Option.map_some, Option.some.injEq]
    rw [List.getD_eq_getElem?_getD, hls']
    rfl
   have htj : (((ydg g k ls).take j).map i64).length = j := by simp [hblen]; omega
   have hrow := rowsC_at (l := (ydg g k ls).take j) h
   have hcell : (yfz 15 1 0 (ymy g k ((ydg g k ls).take j)) ++ [])[k]? = some (.ls (fam 15 k) 1 j) := by
    rw [List.append_nil, yfl, hrow]
    simp only [Option.map_some, htj, Nat.div_one, Nat.zero_add]
   have hk1 : ((k : Int).toNat * 1) = k := by simp
   (try refine zw ?_)
   refine yeb (lf := lf0) zcu rfl ?_
   refine yqb [5, 6, 7, 8, 9, 10, 11, 12, 13, 14, 15, 16, 17] 8 (yaa rfl (yaa rfl (yaa rfl (yaa rfl (yaa rfl (yaa rfl (yaa rfl (yaa rfl (yaa rfl (yaa rfl (yaa rfl (yaa rfl (yaa rfl yak))))))))))))) rfl (by kernel_rfl) ?_
   refine zsi (h' := ((9, some (.cells (yeh l))) :: ykd p g (k + 1)) ++ yek 15 1 (ymy g k ((ydg g k ls).take j)) []) yhw ?_
   (repeat (first | refine zo ?_ | refine yav tok rfl rfl (yba (f := (9, some (.cells (yeh l))) :: ykd p g (k + 1)) rfl) rfl (by omega) (by omega) rfl rfl ?_ | refine ycn (r := .ls (fam 15 k) 1 j) tok rfl rfl rfl (by rw [yba (f := (9, some (.cells (yeh l))) :: ykd p g (k + 1)) rfl]; exact yqd _) (by rw [hk1]; exact hcell) rfl rfl ?_ | refine yac rfl rfl (portto_con g l.1 k ls' hl1.1 hls' (by omega)) rfl rfl ?_))
   have hat : yad ((9, some (LObj.cells (yeh l))) :: ykd p g (k + 1) ++ (15, some (yjq ((yfz 15 1 0 (ymy g k ((ydg g k ls).take j)) ++ []).set k .one))) :: yqg 15 0 ((ymy g k ((ydg g k ls).take j)).set k (((ydg g k ls).take j).map i64 ++ [[i64 (yia ls' k)]].flatten))) 15 = some (yjq ((yfz 15 1 0 (ymy g k ((ydg g k ls).take j)) ++ []).set k .one)) := by rw [ybi _ _ (ymb rfl), yah]
   refine zbr tok ypg [(0, 45, .lp 17 0), (1, 46, .lp 17 0), (2, 47, .lp 17 (0 + 6)), (3, 48, .ls 15 1 g.ports.length), (4, 49, i64 k)] 18 63 [56] (.ls (fam 15 k) 1 (j + 1)) (req := [(5, .lp 17 0), (6, i64 k)]) 2 rfl (by kernel_rfl) rfl rfl rfl (by kernel_rfl) (by kernel_rfl) rfl ⟨⟨rfl, rfl, rfl⟩, ⟨rfl, rfl, rfl⟩, trivial⟩ rfl
    ⟨⟨_, [(5, .lp 17 0), (6, i64 k)], rfl, rfl, rfl, by kernel_rfl, by kernel_rfl, by kernel_rfl, by kernel_rfl, rfl, rfl, rfl⟩, ⟨_, [(45, .lp 17 0), (5, .lp 17 0), (6, i64 k)], rfl, rfl, rfl, by kernel_rfl, by kernel_rfl, by kernel_rfl, by kernel_rfl, rfl, rfl, rfl⟩, ⟨_, [(45, .lp 17 0), (46, .lp 17 0), (5, .lp 17 0), (6, i64 k)], rfl, rfl, rfl, by kernel_rfl, by kernel_rfl, by kernel_rfl, by kernel_rfl, rfl, rfl, rfl⟩, ⟨_, [(45, .lp 17 0), (46, .lp 17 0), (47, .lp 17 (0 + 6)), (5, .lp 17 0), (6, i64 k)], rfl, rfl, rfl, by kernel_rfl, by kernel_rfl, by kernel_rfl, by kernel_rfl, rfl, rfl, rfl⟩, ⟨_, [(5, .lp 17 0), (6, i64 k)], rfl, rfl, rfl, by kernel_rfl, by kernel_rfl, by kernel_rfl, by kernel_rfl, rfl, rfl, rfl⟩, trivial⟩ rfl rfl rfl
    (fun t ht hl => yug (s := ⟨t, _⟩) (t' := yjp [56] t) (i := k) (news := [[i64 (yia ls' k)]]) (f := (9, some (.cells (yeh l))) :: ykd p g (k + 1)) tok (fun x y h => (zkc hl h).imp (fun e => e) fun e => ⟨e.1, ypg.ment (ygc _ _) e.2⟩) (fun x y h => zfg h) rfl rfl rfl (ht 56 _ rfl) hrow (by rw [htj, Nat.mul_one]) (ht 62 _ rfl) (by intro c hc; simp at hc; subst hc; rfl) (by constructor <;> simp <;> omega) rfl rfl rfl rfl rfl rfl) ?_
   refine yar [19, 20] (yaa rfl (yaa rfl yak)) rfl (by kernel_rfl) ?_
   refine yav tok rfl rfl hat rfl (by omega) (by omega) rfl rfl ?_
   refine yvd tok rfl rfl rfl rfl rfl hat (by rw [List.length_set, List.append_nil, yev, zgp h]; omega) rfl rfl ?_
   refine zsi (h' := ((9, some (.cells (yeh l))) :: ykd p g (k + 1)) ++ yek 15 1 (ymy g k ((ydg g k ls).take (j + 1))) []) ?_ ?_
   ·rw [hk1]
    refine (zkb (f := (9, some (.cells (yeh l))) :: ykd p g (k + 1)) rfl (by omega) rfl (by rw [zgp h]; exact h) (by simp [hblen]; omega)).trans ?_
    rw [ycd hbj, ← rowsC_next h]
    rfl
   (try refine zy ?_)
   exact zgl (j + 1) (by omega) (by omega) (by exact zs) (hsM (f := (9, some (.cells (yeh l))) :: ykd p g (k + 1)) (yal rfl (yal rfl yay)) rfl rfl rfl)
  ·simp at h2
   obtain rfl : j = ls.length := by omega
   (try refine zy ?_)
   refine zgl (k + 1) (by omega) (by omega) (by exact zs) (hsE ?_)
   rw [show (ydg g k ls).take ls.length = ydg g k ls from List.take_of_length_le (by simp [ydg]), rowsC_end hls]
 ·simp at h
  obtain rfl : k = g.ports.length := by omega
  (try refine zy ?_)
  refine yaf ?_; refine ⟨_, rfl, ?_⟩
  have hal : g.ids.take g.ports.length = g.ids := List.take_of_length_le (by omega)
  have hbl : (ymm g).length = g.ports.length := by simp [ymm]
  have hm : Frz (yad (ykd p g g.ports.length ++ yek 15 1 (zik g g.ports.length) [])) (.ls 15 1 g.ports.length) (yfh (ymm g)) := zod (f := ykd p g g.ports.length) rfl rfl rfl hbl.symm (by
   unfold zik
   rw [Nat.sub_self, List.replicate_zero, List.append_nil, List.take_of_length_le (by omega)])
  refine Frz.boxF (xs := yof p g g.ports.length) (ys := yvu p g) rfl rfl (fun y hy => ?_) (fun i x y hx hy => ?_)
  ·simp only [yvu, List.mem_cons, List.not_mem_nil, or_false] at hy
   rcases hy with rfl | rfl | rfl | rfl | rfl | rfl | rfl <;> rfl
  ·have hi : i < 7 := (List.getElem?_eq_some_iff.1 hx).1
   have : i = 0 ∨ i = 1 ∨ i = 2 ∨ i = 3 ∨ i = 4 ∨ i = 5 ∨ i = 6 := by omega
   rcases this with rfl | rfl | rfl | rfl | rfl | rfl | rfl <;> simp only [yof, yvu, List.getElem?_cons_zero, List.getElem?_cons_succ, Option.some.injEq] at hx hy <;> subst hx hy
   ·exact Frz.pure
   ·exact Frz.pure
   ·exact Frz.pure
   ·exact Frz.pure
   ·exact Frz.pure
   ·rw [hal]; exact Frz.pure
   ·exact hm
end
section
open Go.RowKit
def rowMover (p : ProgD) (g : GraphD) : List AV := [zdc p.name, .sl 6 (p.vars.map ydu), .sl 3 (p.rules.map yfb), zbb p g, zen (ybk p g)]
def yjx (p : ProgD) (g : GraphD) : AV := .dp (rowMover p g) 0
theorem yno (p : ProgD) (g : GraphD) (hf : Fair p g) (h0 : yhv p g = 0) : Con Tryz.prog 104 [ypd p, yin g] (yjx p g) := by
 have hg := (yft.1 h0).2.1
 refine yan Tryz.func104 rfl rfl Tryz.ntmps104 Tryz.results104 rfl rfl ?_
 (repeat (first | refine zy ?_ | refine yac rfl rfl (newscene_con p g hg) rfl rfl ?_ | refine yac rfl rfl (zgv p g hf h0) rfl rfl ?_))
 refine yaf ?_; refine ⟨_, rfl, ?_⟩
 exact Frz.box rfl rfl
theorem zfx {p : ProgD} {g : GraphD} {c : List (List Int)} (h : CfgOk p g c) {v : Nat} (hv : v < c.length) : Con Tryz.prog 177 [yjx p g, yfh c, i64 v] (i64 (zil p ⟨g, c, v⟩)) := by
 have hlen := (ydh h.prog).2.2.1
 refine yan Tryz.func177 rfl rfl Tryz.ntmps177 Tryz.results177 rfl rfl ?_
 (try refine zy ?_)
 refine ycy (α := Nat) (fun k => [(14, i64 k), (13, i64 p.rules.length), (0, yjx p g), (1, yfh c), (2, i64 v)]) (fun k => []) (fun k => p.rules.length - k) (fun k => k ≤ p.rules.length ∧ ∀ j b, j < k → (p.rules.map fun r => (⟨g, c, v⟩ : Scn).of r.guard)[j]? = some b → b = 0) 0 ⟨by omega, fun j b hj => by omega⟩ (by exact zs) yay ?_
 intro k ⟨hk, hall⟩
 (try refine zy ?_)
 refine yag rfl (fun h1 => ?_) (fun h1 => ?_)
 ·simp at h1
  obtain ⟨r, hr⟩ := ycz h1
  have hat : (p.rules.map fun r => (⟨g, c, v⟩ : Scn).of r.guard)[k]? = some ((⟨g, c, v⟩ : Scn).of r.guard) := by rw [List.getElem?_map, hr]; rfl
  (repeat (first | refine zy ?_ | refine yac rfl rfl (sguard_con h hv hr) rfl rfl ?_))
  refine yag rfl (fun h2 => ?_) (fun h2 => ?_)
  ·(try refine zy ?_)
   refine yaf ?_; refine ⟨_, rfl, ?_⟩
   exact yae (by unfold zil; rw [zjz hat (by simpa using h2) hall]; simp)
  ·(try refine zy ?_)
   refine rnd (k + 1) ⟨by omega, fun j b hj hb => ?_⟩ (by omega) (by exact zs) yay
   by_cases e : j = k
   ·subst e
    rw [hat] at hb
    cases hb
    simpa using h2
   ·exact hall j b (by omega) hb
 ·simp at h1
  obtain rfl : k = p.rules.length := by omega
  (try refine zy ?_)
  refine yaf ?_; refine ⟨_, rfl, ?_⟩
  refine yae ?_
  unfold zil
  rw [yvl]
  intro a ha
  obtain ⟨j, hj⟩ := List.getElem?_of_mem ha
  exact hall j a (by have := (List.getElem?_eq_some_iff.1 hj).1; simpa using this) hj
theorem snodes_con {f : Nat} {caps : List AV} {b : Nat → Bool} (n : Nat) (hn : n ≤ 1000) (hp : ybf.pureL caps = true) (hf : ∀ v : Nat, v < n → Con Tryz.prog f (i64 v :: caps) (ycp (b v))) : Con Tryz.prog 175 [i64 n, .fn f caps] (ycm (yph b n)) := by
 refine yan Tryz.func175 rfl rfl Tryz.ntmps175 Tryz.results175 rfl rfl ?_
 (try refine zy ?_)
 refine ycy (α := Nat) (fun k => [(8, i64 k), (7, i64 n), (5, ycm (yph b k)), (1, .fn f caps)]) (fun k => []) (fun k => n - k) (fun k => k ≤ n) 0 (by omega) (by exact zs) yay ?_
 intro k hk
 (try refine zy ?_)
 refine yag rfl (fun h1 => ?_) (fun h1 => ?_)
 ·simp at h1
  (repeat (first | refine zy ?_ | refine yac rfl rfl (hf k h1) rfl rfl ?_))
  have hnext : ∀ q, b k = q → yph b (k + 1) = if q = true then yph b k ||| (1#32 <<< k) else yph b k := fun q hq => by rw [yph, hq]
  refine yag rfl (fun h2 => ?_) (fun h2 => ?_)
  ·(repeat (first | refine yid tok rfl (by constructor <;> omega) rfl rfl ?_ | refine yel rfl rfl (by omega) rfl rfl ?_ | refine yic rfl rfl rfl rfl ?_ | refine ybo rfl rfl rfl rfl ?_ | refine zI ?_ | refine zL ?_ | refine zC ?_ | refine ydw ?_ | refine ydl ?_ | refine zR ?_ | refine zD ?_ | refine zK ?_ | refine zB ?_ | refine zA ?_ | refine zS ?_ | refine zU ?_ | refine zV ?_ | refine zF ?_ | with_reducible refine ybl ?_ | with_reducible refine ycc ?_ | refine ybr ?_ | refine ybx ?_ | refine yco ?_ | refine zT ?_ | refine zE ?_ | refine zX ?_))
   have e := hnext true h2
   rw [if_pos rfl] at e
   refine rnd (k + 1) (by omega) (by omega) ?_ yay
   rw [e]
   exact (by exact zs)
  ·(try refine zy ?_)
   have e := hnext false h2
   rw [if_neg (by simp)] at e
   refine rnd (k + 1) (by omega) (by omega) ?_ yay
   rw [e]
   exact (by exact zs)
 ·simp at h1
  obtain rfl : k = n := by omega
  (try refine zy ?_)
  refine yaf ?_; refine ⟨_, rfl, ?_⟩
  exact Frz.pure
theorem menabled1_con {p : ProgD} {g : GraphD} {c : List (List Int)} (h : CfgOk p g c) {v : Nat} (hv : v < c.length) : Con Tryz.prog 176 [i64 v, .dp [yjx p g] 0, .dp [yfh c] 0] (ycp (zdl p g c v)) := by
 refine yan Tryz.func176 rfl rfl Tryz.ntmps176 Tryz.results176 rfl rfl ?_
 (repeat (first | refine zy ?_ | refine yac rfl rfl (zfx h hv) rfl rfl ?_))
 refine yaf ?_; refine ⟨_, rfl, ?_⟩
 exact yai rfl
theorem yjv {p : ProgD} {g : GraphD} {c : List (List Int)} (h : CfgOk p g c) : Con Tryz.prog 114 [yjx p g, yfh c] (ycm (ykl p g c)) := by
 have hn := h.n24
 have hl := h.len
 have htl : (ybk p g).length = c.length := (ywi h.table).1.symm
 have hnc := snodes_con (f := 176) (caps := [.dp [yjx p g] 0, .dp [yfh c] 0]) (b := zdl p g c) c.length (by omega) rfl fun v hv => menabled1_con h hv
 refine yan Tryz.func114 rfl rfl Tryz.ntmps114 Tryz.results114 rfl rfl ?_
 (repeat (first | with_reducible refine ycc ?_ | with_reducible refine ybl ?_ | refine ybx ?_)); refine ydl ?_; refine ydj (lf := lfT) rfl ?_
 (try refine zo ?_)
 refine zt ?_
 refine yiv 2 rfl rfl rfl rfl rfl ?_
 refine yiv 3 rfl rfl rfl rfl rfl ?_
 (repeat (first | refine zy ?_ | refine ynd 9 (y := i64 c.length) rfl (ymp (by rw [htl])) ?_ | refine yac rfl rfl hnc rfl rfl ?_))
 refine yaf ?_; refine ⟨_, rfl, ?_⟩
 exact Frz.pure
theorem senabled_con {p : ProgD} {g : GraphD} {c : List (List Int)} (h : CfgOk p g c) : Con Tryz.prog 60 [ypd p, yin g, yfh c] (ycm (ykl p g c)) := by
 have hm := mvalid_con p g c h.fair h.cin
 rw [h.chk] at hm
 refine yan Tryz.func60 rfl rfl Tryz.ntmps60 Tryz.results60 rfl rfl ?_
 (repeat (first | refine zy ?_ | refine yac rfl rfl hm rfl rfl ?_ | refine yac rfl rfl (yno p g h.fair h.fit) rfl rfl ?_ | refine yac rfl rfl (yjv h) rfl rfl ?_))
 refine yaf ?_; refine ⟨_, rfl, ?_⟩
 exact Frz.pure
end
set_option maxHeartbeats 4000000
section
open Go.RowKit
variable {P : Program} {N : Nat} {Q : Exit → SS → Prop} {t : List (Nat × AV)}
theorem A_freezeRows {c : Code} {t' : List (Nat × AV)} {h f f' : List (Nat × Option LObj)} {M : Nat} {els : List (List (List AV))} {sz : Nat} (hh : yad h = yad (f ++ yek M sz (els.map List.flatten) [])) (ht' : zdd t t') (ht : zrp t' = true) (hf : zhj f = true) (hf' : yus f f') (hl' : zhj f' = true) (hM : Nat.blt M 1000000 = true) (hkey : (f.all fun x => !Nat.beq x.1 M) = true) (hkey' : (f'.all fun x => !Nat.beq x.1 M) = true) (hs : 0 < sz) (hsz : ∀ r ∈ els, ∀ e ∈ r, e.length = sz)
  (k : A P N c Q (S t' ((M, some (.vec (els.map fun r => .sl sz r))) :: f'))) : A P N c Q (S t h) := by
 have hS : S t h = S t (f ++ yek M sz (els.map List.flatten) []) := by unfold S; rw [hh]
 rw [hS]
 intro B ok0 lv a w hs0
 have hM' : M < 1000000 := by simpa using hM
 have hfl := yop hf
 have hkn := ymb hkey
 have hkn' := ymb hkey'
 let lv' : Live := fun j => match yad ((M, some (LObj.vec (els.map fun r => .sl sz r))) :: f') j with | some _ => lv j | none => none
 have hlv : ∀ j b n, lv' j = some (b, n) → lv j = some (b, n) ∧ j < 1000000 := by
  intro j b n hj
  simp only [lv'] at hj
  split at hj
  ·rename_i o ho
   refine ⟨hj, ?_⟩
   by_cases hjM : j = M
   ·omega
   ·rw [yaw hjM] at ho
    exact (yjg hl' j o ho).2
  ·cases hj
 have hok : ∀ g, ybn B ok0 lv w g → ybn B ok0 lv' w g := fun g hg => ⟨hg.1, hg.2.1, fun j b m hj => hg.2.2 j b m (hlv j _ m hj).1⟩
 have hfree : ∀ i b n, lv (fam M i) = some (some b, n) → ybn B ok0 lv' w b := fun i b n hb => by
  obtain ⟨_, _, h1, h2, _⟩ := hs0.inv.lvat hb
  refine ⟨.inr h1, h2, fun j b' m hj e => ?_⟩
  subst e
  obtain ⟨g1, g2⟩ := hlv j _ m hj
  have := hs0.inv.inj _ _ _ _ _ hb g1
  have := ygc M i
  omega
 have hre : ∀ (x : AV) (u : Value), Rel (ybn B ok0 lv w) w lv x u → Rel (ybn B ok0 lv' w) w lv' x u := fun x u hr =>
  (hr.relive fun j b m hj hm => (hlv j b m hj).1).keep fun g hg => ⟨hok g hg, rfl⟩
 refine k B ok0 lv' a w ⟨⟨hs0.inv.base, hs0.inv.ok0lt, fun j hj => ?_, fun i j b m q h1 h2 => hs0.inv.inj i j b m q (hlv i _ m h1).1 (hlv j _ q h2).1, fun j x hj => ?_⟩, hs0.size, fun x y hy => ?_, hs0.defers, hs0.big, fun j b o hN hj hc hb => ?_⟩
 ·show lv' j = none
  simp only [lv']
  have hj : yad ((M, some (LObj.vec (els.map fun r => .sl sz r))) :: f') j = none := hj
  rw [hj]
 ·have hj : yad ((M, some (LObj.vec (els.map fun r => .sl sz r))) :: f') j = some x := hj
  have e1 : lv' j = lv j := by simp only [lv', hj]
  by_cases hjM : j = M
  ·subst hjM
   rw [yah] at hj
   cases hj
   obtain ⟨b, n, g1, g2⟩ := hs0.inv.obj j _ (yba (sz := sz) (rows := els.map List.flatten) (extra := []) hkey)
   refine ⟨b, n, by rw [e1]; exact g1, ?_⟩
   rw [List.append_nil] at g2
   cases b with
   | none =>
    have := ymd g2
    have hl := congrArg List.length this
    rw [yev, List.length_map] at hl
    have : els = [] := List.eq_nil_of_length_eq_zero hl
    subst this
    exact .inl rfl
   | some b =>
    obtain ⟨q1, q2, q3⟩ := g2
    obtain ⟨c, e, g1', g2', g3, g4, g5⟩ := yip.1 q3
    refine ⟨q1, q2, ⟨c, e, g1', g2', by rw [yev] at g3; simpa using g3, fun y hy => ?_, fun k y u hy hu => ?_⟩, fun y hy => ?_⟩
    ·obtain ⟨r, _, rfl⟩ := List.mem_map.1 hy; rfl
    ·rw [List.getElem?_map] at hy
     cases hr : els[k]? with
     | none => rw [hr] at hy; cases hy
     | some r =>
      rw [hr] at hy
      cases hy
      have hcell : (yfz j sz 0 (els.map List.flatten))[k]? = some (.ls (fam j k) sz (r.flatten.length / sz)) := by
       rw [yfl, List.getElem?_map, hr]; simp
      have hrel := g5 k _ u hcell hu
      have hrow := yap (f := f) (sz := sz) (rows := els.map List.flatten) (extra := []) hfl hM' (i := k) (r := r.flatten) (by rw [List.getElem?_map, hr]; rfl)
      have hr1 : ∀ e ∈ r, e.length = sz := hsz r (List.mem_of_getElem? hr)
      have hfl2 : r.flatten.length / sz = r.length := by
       have : ∀ r : List (List AV), (∀ e ∈ r, e.length = sz) → r.flatten.length = r.length * sz := by
        intro r
        induction r with
        | nil => intro _; simp
        | cons e r ih =>
         intro he
         rw [List.flatten_cons, List.length_append, ih fun e h => he e (by simp [h]), he e (by simp), List.length_cons, Nat.succ_mul, Nat.add_comm]
       rw [this r hr1]
       exact Nat.mul_div_cancel _ hs
      rw [hfl2] at hrel
      refine zaw (yrn hs0.inv hrel (by show ycw (yad _ _) = _; rw [hrow]; rfl) rfl hr1 rfl (fun x hx i => ?_) _ hok (fun b n hb => hfree _ b n hb)) rfl
      obtain ⟨b', n', p1, p2⟩ := hs0.inv.obj _ _ hrow
      cases b' with
      | none =>
       rcases p2 with p2 | ⟨e, p2⟩
       ·simp only [LObj.vec.injEq] at p2
        rw [p2] at hx
        simp at hx
       ·cases p2
      | some b' => exact ybf.ment (p2.2.2.2 x hx)
    ·obtain ⟨r, _, rfl⟩ := List.mem_map.1 hy; rfl
  ·rw [yaw hjM] at hj
   have hj0 := ybq hf' j x hj
   obtain ⟨b, n, g1, g2⟩ := hs0.inv.obj j x (yfj hj0)
   refine ⟨b, n, by rw [e1]; exact g1, ?_⟩
   cases b with
   | none => exact g2
   | some b => exact ⟨g2.1, g2.2.1, (g2.2.2.relive fun j' b n hb _ => (hlv j' b n hb).1).keep (fun g hg => ⟨hok g hg, rfl⟩) rfl⟩
 ·have := yby ht' x y hy
  exact ⟨(hs0.frame x y this).1, hre y _ (hs0.frame x y this).2⟩
 ·have hj : yad ((M, some (LObj.vec (els.map fun r => .sl sz r))) :: f') j = some o := hj
  have e1 : lv' j = lv j := by simp only [lv', hj]
  by_cases hjM : j = M
  ·subst hjM
   rw [yah] at hj
   cases hj
   cases hc
  ·rw [yaw hjM] at hj
   obtain ⟨n, hn⟩ := hs0.pin j b o hN (yfj (ybq hf' j o hj)) hc hb
   exact ⟨n, by rw [e1]; exact hn⟩
end
set_option maxHeartbeats 8000000
section
open Go.RowKit
theorem frz_row {h : Nat → Option LObj} {id n : Nat} {l : List Int} (hx : h id = some (.vec (l.map i64))) (hn : n = l.length) : Frz h (.ls id 1 n) (yaq l) := by
 subst hn
 exact Frz.ls (rows := l.map fun z => [i64 z]) (by rw [hx]; rfl) (by simp) (by intro r hr; obtain ⟨z, _, rfl⟩ := List.mem_map.1 hr; rfl) (ygi l) (by intro x hx i; obtain ⟨z, _, rfl⟩ := List.mem_map.1 hx; rfl)
theorem zli {p : ProgD} {tbl : List (List (Int × Int))} {s : Scn} : ∀ (l : List SetD) (st : List Int), (l.foldl (zpt p tbl s) st).length = st.length
 | [], st => rfl
 | x :: l, st => by rw [List.foldl_cons, zli l]; simp [zpt]
theorem mmove_con {p : ProgD} {g : GraphD} {c : List (List Int)} (h : CfgOk p g c) {v : Nat} (hv : v < c.length) {i : Nat} {r : RuleD} (hr : p.rules[i]? = some r) : Con Tryz.prog 179 [yjx p g, yfh c, i64 v, i64 i] (yaq (ztn p (ybk p g) ⟨g, c, v⟩ i)) := by
 obtain ⟨st, hst⟩ := ycz hv
 obtain ⟨b, hb, hsb⟩ := h.row hst
 have hbl := yyl hb
 have hsl := (yse hsb).1
 have h6 := h.vars6
 have hrs : r.sets.length ≤ 1000 := (h.fair.light.2.2 r (List.mem_of_getElem? hr)).2.1
 have hcv : c.getD v [] = st := by rw [List.getD_eq_getElem?_getD, hst]; rfl
 let row : Nat → List Int := fun j => (r.sets.take j).foldl (zpt p (ybk p g) ⟨g, c, v⟩) st
 have hrl : ∀ j, (row j).length = p.vars.length := fun j => by simp only [row]; rw [zli]; omega
 refine yan Tryz.func179 rfl rfl Tryz.ntmps179 Tryz.results179 rfl rfl ?_
 (repeat (first | refine zy ?_ | refine L_appendNil tok rfl rfl rfl (by intro c hc; rw [ygi] at hc; obtain ⟨x, _, rfl⟩ := List.mem_map.1 hc; rfl) (by constructor <;> simp <;> omega) rfl rfl rfl rfl rfl ?_))
 refine yjr (α := Nat) (fun j => [(28, i64 j), (27, i64 r.sets.length), (26, .sl 2 (r.sets.map znt)), (9, .ls 17 1 p.vars.length), (0, yjx p g), (1, yfh c), (2, i64 v)]) (fun j => [(17, some (.vec ((row j).map i64)))]) (fun j => r.sets.length - j) (fun j => j ≤ r.sets.length) 0 (by omega) ?_ (hsE ?_) ?_
 ·refine yam rfl (yam rfl (yam rfl (yam (ygt rfl (by rw [List.length_map, hsl, hbl])) (by exact zs))))
 ·rw [ygi]; rfl
 intro j hj
 (try refine zy ?_)
 refine yag rfl (fun h1 => ?_) (fun h1 => ?_)
 ·simp at h1
  obtain ⟨x, hx⟩ := ycz h1
  have hty := zrx h.prog (List.mem_of_getElem? hr) (List.mem_of_getElem? hx)
  obtain ⟨y, hy⟩ := ycz (show x.var.toNat < p.vars.length by omega)
  obtain ⟨q, hq⟩ := ycz (show x.var.toNat < b.length by omega)
  (repeat (first | refine zy ?_ | refine yac rfl rfl (zls h hv hty.2.2) rfl rfl ?_ | refine yac rfl rfl (bring_con _ _ _ _) rfl rfl ?_))
  have hbr : yog p (ybk p g) v x.var.toNat ((⟨g, c, v⟩ : Scn).of x.val) = yks y.kind q.1 q.2 ((⟨g, c, v⟩ : Scn).of x.val) := by
   simp only [yog, List.getD_eq_getElem?_getD, hy, hb, Option.getD_some, hq]
  have hnext : row (j + 1) = (row j).set x.var.toNat (yks y.kind q.1 q.2 ((⟨g, c, v⟩ : Scn).of x.val)) := by
   simp only [row]
   rw [ycd hx, List.foldl_append, List.foldl_cons, List.foldl_nil, zpt, hbr]
  refine yav tok rfl rfl rfl rfl hty.1 (by omega) rfl rfl ?_
  refine yvc tok rfl rfl rfl rfl rfl rfl (by rw [List.length_map, hrl]; omega) rfl (congrArg (fun z => yad ((17, some (LObj.vec z)) :: _)) (show _ = (row (j + 1)).map i64 by rw [Nat.mul_one, hnext, List.map_set])) rfl rfl ?_
  (try refine zy ?_)
  exact zgl (j + 1) (by omega) (by omega) (by exact zs) (ybq (yal rfl yay))
 ·simp at h1
  obtain rfl : j = r.sets.length := by omega
  (try refine zy ?_)
  refine yaf ?_; refine ⟨_, rfl, ?_⟩
  have e : ztn p (ybk p g) ⟨g, c, v⟩ i = row r.sets.length := by simp only [ztn, hr, hcv, row, List.take_length]
  rw [e]
  exact frz_row rfl (hrl _).symm
end
section
open Go.RowKit
variable {P : Program} {T : Nat → Option Ty} {N : Nat} {ops : Array Oper} {lf : Oper → Bool} {Q : SS → Prop} {t : List (Nat × AV)} {h : List (Nat × Option LObj)} {rest : List Oper} {d : Nat} {op : Op} {ty : TypeId} {pos : String} {af : Array Edge} {gd : Option (Nat × Bool)} {r : AV}
theorem andU_val (B C : BitVec 32) : Op.intBits .and .u32 (B.toNat : Int) (C.toNat : Int) = pure (.int .u32 ((B &&& C).toNat : Int)) := by
 have e1 : BitVec.ofInt IntKind.u32.bits (B.toNat : Int) = B := yli B
 have e2 : BitVec.ofInt IntKind.u32.bits (C.toNat : Int) = C := yli C
 unfold Op.intBits
 simp only [e1, e2]
 exact congrArg (fun z => pure (Value.int .u32 z)) (zdj (B &&& C))
theorem zbn {ρ : Operand → Option AV} {hp : Nat → Option LObj} {x y : Operand} {B C : BitVec 32} {tx ty' : TypeId} (hx : ρ x = some (ycm B)) (hy : ρ y = some (ycm C)) : ybw P hp ρ (.binOp .and tx x y ty') ty (ycm (B &&& C)) :=
 yck (fun _ _ => by simp) (by simp [yfx, Op.operands, hx, hy, toV, ycm]) fun w => by
  have e := andU_val B C
  simp [execOp, ydv hx, ydv hy, eqGuard, binOp, e]
theorem yig {x y : Operand} {B C : BitVec 32} {tx ty' : TypeId} (hx : evF (look t) x = some (ycm B)) (hy : evF (look t) y = some (ycm C))
  (hw : yaj ops (look t) ⟨some d, .binOp .and tx x y ty', ty, pos, af, gd⟩ = some true) (hd : Nat.blt d N = true) (k : Lex P N ops lf Q rest (S ((d, ycm (B &&& C)) :: t) h)) : Lex P N ops lf Q (⟨some d, .binOp .and tx x y ty', ty, pos, af, gd⟩ :: rest) (S t h) :=
 ycf (zbn hx hy) hw hd k
theorem ymi {x y : Operand} {B : BitVec 32} {tx ty' : TypeId} (hx : evF (look t) x = some (ycm B)) (hy : evF (look t) y = some (.v (.int .u32 1)))
  (hw : yaj ops (look t) ⟨some d, .binOp .and tx x y ty', ty, pos, af, gd⟩ = some true) (hd : Nat.blt d N = true) (k : Lex P N ops lf Q rest (S ((d, ycm (B &&& 1#32)) :: t) h)) : Lex P N ops lf Q (⟨some d, .binOp .and tx x y ty', ty, pos, af, gd⟩ :: rest) (S t h) :=
 ycf (zbn hx (C := 1#32) hy) hw hd k
theorem shr_val (B : BitVec 32) (n : Nat) : ((B.toNat : Int).fdiv (2 ^ (min n 32))) = ((B >>> n).toNat : Int) := by
 rw [BitVec.toNat_ushiftRight, Nat.shiftRight_eq_div_pow]
 have hB := B.isLt
 rw [Int.fdiv_eq_ediv_of_nonneg _ (Int.le_of_lt (Int.pow_pos (by omega)))]
 rcases Nat.lt_or_ge n 32 with h | h
 ·rw [Nat.min_eq_left (by omega)]
  norm_cast
 ·rw [Nat.min_eq_right h]
  have : B.toNat / 2 ^ n = 0 := Nat.div_eq_of_lt (Nat.lt_of_lt_of_le hB (Nat.pow_le_pow_right (by omega) h))
  rw [this]
  omega
theorem yield_shrU {ρ : Operand → Option AV} {hp : Nat → Option LObj} {x y : Operand} {B : BitVec 32} {i : Int} {k' : IntKind} {tx ty' : TypeId} (hx : ρ x = some (ycm B)) (hy : ρ y = some (.v (.int k' i))) (hb : 0 ≤ i) : ybw P hp ρ (.binOp .shr tx x y ty') ty (ycm (B >>> i.toNat)) := by
 have := yield_shr (P := P) (hp := hp) (ty := ty) (tx := tx) (ty' := ty') hx hy hb
 rwa [show IntKind.u32.bits = 32 from rfl, shr_val] at this
theorem ykr {x y : Operand} {B : BitVec 32} {i : Int} {k' : IntKind} {tx ty' : TypeId} (hx : evF (look t) x = some (ycm B)) (hy : evF (look t) y = some (.v (.int k' i))) (hb : 0 ≤ i)
  (hw : yaj ops (look t) ⟨some d, .binOp .shr tx x y ty', ty, pos, af, gd⟩ = some true) (hd : Nat.blt d N = true) (k : Lex P N ops lf Q rest (S ((d, ycm (B >>> i.toNat)) :: t) h)) : Lex P N ops lf Q (⟨some d, .binOp .shr tx x y ty', ty, pos, af, gd⟩ :: rest) (S t h) :=
 ycf (yield_shrU hx hy hb) hw hd k
theorem zdb (B : BitVec 32) (n : Nat) : ((((B >>> n) &&& 1#32).toNat : Int) == 1) = B.getLsbD n := by
 have h : (B >>> n) &&& 1#32 = if B.getLsbD n then 1#32 else 0#32 := by
  apply BitVec.eq_of_getLsbD_eq
  intro i hi
  rw [BitVec.getLsbD_and, BitVec.getLsbD_ushiftRight]
  by_cases e : i = 0
  ·subst e
   cases hb : B.getLsbD n <;> simp
  ·have : (1#32).getLsbD i = false := by simp [BitVec.getLsbD_one, e]
   rw [this, Bool.and_false]
   split <;> simp [BitVec.getLsbD_one, e]
 rw [h]
 cases B.getLsbD n <;> rfl
theorem zit (B C : BitVec 32) : (((B.toNat : Int)) == (C.toNat : Int)) = (B == C) := by
 rw [Bool.eq_iff_iff, beq_iff_eq, beq_iff_eq]
 constructor
 ·intro e; exact BitVec.eq_of_toNat_eq (by omega)
 ·intro e; rw [e]
theorem ygv (B : BitVec 32) : (((B.toNat : Int)) == 0) = (B == 0#32) := zit B 0#32
theorem ziu (B C : BitVec 32) : (((B.toNat : Int)) != (C.toNat : Int)) = (B != C) := by
 unfold bne; rw [zit]
theorem ypb (B : BitVec 32) : (((B.toNat : Int)) != 0) = (B != 0#32) := ziu B 0#32
end
section
open Go.RowKit
theorem rul_get {p : ProgD} {s : Scn} (h : 0 ≤ zil p s) : ∃ (i : Nat) (r : RuleD), zil p s = i ∧ p.rules[i]? = some r := by
 unfold zil at *
 rcases zka (p.rules.map fun r => s.of r.guard) 0 with e | ⟨e1, e2⟩
 ·omega
 ·obtain ⟨r, hr⟩ := ycz (show (yux (p.rules.map fun r => s.of r.guard) 0).toNat < p.rules.length by simp at e2; omega)
  exact ⟨_, r, by omega, hr⟩
def zio (p : ProgD) (g : GraphD) (c : List (List Int)) (set : BitVec 32) (k : Nat) : List (List Int) := (yzd p g c set).take k ++ c.drop k
theorem stpK_zero {p : ProgD} {g : GraphD} {c : List (List Int)} {set : BitVec 32} : zio p g c set 0 = c := by simp [zio]
theorem stpK_all {p : ProgD} {g : GraphD} {c : List (List Int)} {set : BitVec 32} : zio p g c set c.length = yzd p g c set := by
 unfold zio
 rw [List.take_of_length_le (by simp [yko]), List.drop_length, List.append_nil]
theorem zlk {p : ProgD} {g : GraphD} {c : List (List Int)} {set : BitVec 32} {k : Nat} (hk : k ≤ c.length) : (zio p g c set k).length = c.length := by
 simp [zio, yko]; omega
theorem zgu {p : ProgD} {g : GraphD} {c : List (List Int)} {set : BitVec 32} {k : Nat} {r : List Int} (hr : c[k]? = some r) : zio p g c set (k + 1) = (zio p g c set k).set k (if set.getLsbD k then zqz p g c k else r) := by
 have hk := (List.getElem?_eq_some_iff.1 hr).1
 have hs := ziq (p := p) (g := g) (set := set) hr
 unfold zio
 rw [ycd hs, List.set_append_right _ _ (by simp [yko]; omega)]
 have e : ((yzd p g c set).take k).length = k := by simp [yko]; omega
 rw [e, Nat.sub_self, List.append_assoc]
 congr 1
 have hd : c.drop k = r :: c.drop (k + 1) := by
  rw [← (List.getElem?_eq_some_iff.1 hr).2, List.getElem_cons_drop]
 rw [hd]; rfl
theorem stpK_at {p : ProgD} {g : GraphD} {c : List (List Int)} {set : BitVec 32} {k : Nat} (hk : k < c.length) : (zio p g c set k)[k]? = c[k]? := by
 have e : ((yzd p g c set).take k).length = k := by simp [yko]; omega
 unfold zio
 rw [List.getElem?_append_right (by omega), e, Nat.sub_self, List.getElem?_drop, Nat.add_zero]
theorem stpK_same {p : ProgD} {g : GraphD} {c : List (List Int)} {set : BitVec 32} {k : Nat} (hk : k < c.length) (hs : set.getLsbD k = false) : zio p g c set (k + 1) = zio p g c set k := by
 obtain ⟨r, hr⟩ := ycz hk
 have hat := stpK_at (p := p) (g := g) (set := set) hk
 rw [zgu hr, hs, if_neg (by simp)]
 apply List.ext_getElem?
 intro j
 rw [List.getElem?_set]
 split
 ·rename_i e
  subst e
  rw [if_pos (by rw [zlk (by omega)]; exact hk), hat, hr]
 ·rfl
theorem A_freezeCfg {P : Program} {N : Nat} {Q : Exit → SS → Prop} {t : List (Nat × AV)} {code : Code} {t' : List (Nat × AV)} {h f f' : List (Nat × Option LObj)} {M : Nat} {c : List (List Int)} (hh : yad h = yad (f ++ yek M 1 (zdn c) [])) (ht' : zdd t t') (ht : zrp t' = true) (hf : zhj f = true) (hf' : yus f f') (hl' : zhj f' = true) (hM : Nat.blt M 1000000 = true) (hkey : (f.all fun x => !Nat.beq x.1 M) = true) (hkey' : (f'.all fun x => !Nat.beq x.1 M) = true)
  (k : A P N code Q (S t' ((M, some (.vec (c.map yaq))) :: f'))) : A P N code Q (S t h) := by
 refine A_freezeRows (els := c.map fun r => r.map fun x => [i64 x]) (sz := 1) (f := f) (M := M) ?_ ht' ht hf hf' hl' hM hkey hkey' (by omega) (by intro r hr e he; obtain ⟨r0, _, rfl⟩ := List.mem_map.1 hr; obtain ⟨q, _, rfl⟩ := List.mem_map.1 he; rfl) ?_
 ·have : (c.map fun r => r.map fun x => [i64 x]).map List.flatten = zdn c := by
   simp only [zdn, List.map_map]; congr 1; funext r; exact ygi r
  rw [hh, this]
 ·rw [List.map_map]
  exact k
theorem frz_cfgV {h : Nat → Option LObj} {id n : Nat} {c : List (List Int)} (hx : h id = some (.vec (c.map yaq))) (hn : n = c.length) : Frz h (.ls id 1 n) (yfh c) := by
 subst hn
 refine Frz.ls (rows := c.map fun r => [yaq r]) (by rw [hx]; rfl) (by simp) (by intro r hr; obtain ⟨z, _, rfl⟩ := List.mem_map.1 hr; rfl) ?_ (by intro x hx i; obtain ⟨z, _, rfl⟩ := List.mem_map.1 hx; rfl)
 clear hx
 induction c with
 | nil => rfl
 | cons r c ih => simp [ih]
theorem zfy {p : ProgD} {g : GraphD} {c : List (List Int)} (h : CfgOk p g c) (set : BitVec 32) (hset : ∀ v : Nat, v < c.length → set.getLsbD v = true → zdl p g c v = true) : Con Tryz.prog 116 [yjx p g, yfh c, ycm set] (yfh (yzd p g c set)) := by
 have h24 := h.n24
 have hl := h.len
 have h6 := h.vars6
 have hrows : ∀ r ∈ c, r.length ≤ 1000 := fun r hr => by have := h.rowlen r hr; omega
 refine yan Tryz.func116 rfl rfl Tryz.ntmps116 Tryz.results116 rfl rfl ?_
 (repeat (first | refine zy ?_ | refine L_callO (zjo c (by omega) hrows) rfl rfl rfl rfl rfl rfl rfl rfl rfl rfl rfl rfl rfl ?_))
 refine A_freezeCfg (f := []) (f' := []) (M := 10) (c := c) (t' := [(13, i64 (0 : Nat)), (12, i64 c.length), (7, .ls 10 1 c.length), (0, yjx p g), (1, yfh c), (2, ycm set)]) rfl (by exact zs) rfl rfl yay rfl rfl rfl rfl ?_
 refine yjr (α := Nat) (fun k => [(13, i64 k), (12, i64 c.length), (7, .ls 10 1 c.length), (0, yjx p g), (1, yfh c), (2, ycm set)]) (fun k => [(10, some (.vec ((zio p g c set k).map yaq)))]) (fun k => c.length - k) (fun k => k ≤ c.length) 0 (by omega) (by exact zs) (hsE (by rw [stpK_zero])) ?_
 intro k hk
 (try refine zy ?_)
 refine yag rfl (fun h1 => ?_) (fun h1 => ?_)
 ·simp at h1
  obtain ⟨st, hst⟩ := ycz h1
  have hkl := zlk (p := p) (g := g) (set := set) hk
  (repeat (first | refine yid tok rfl (by constructor <;> omega) rfl rfl ?_ | refine yel rfl rfl (by omega) rfl rfl ?_ | refine ykr rfl rfl (by omega) rfl rfl ?_ | refine yic rfl rfl rfl rfl ?_ | refine yig rfl rfl rfl rfl ?_ | refine ymi rfl rfl rfl rfl ?_ | refine ybo rfl rfl rfl rfl ?_ | refine zI ?_ | refine zL ?_ | refine zC ?_ | refine ydw ?_ | refine ydl ?_ | refine zR ?_ | refine zD ?_ | refine zK ?_ | refine zB ?_ | refine zA ?_ | refine zS ?_ | refine zU ?_ | refine zV ?_ | refine zF ?_ | refine zN ?_ | with_reducible refine ybl ?_ | with_reducible refine ycc ?_ | refine ybr ?_ | refine ybx ?_ | refine yco ?_ | refine zT ?_ | refine zE ?_ | refine zX ?_))
  refine yag rfl (fun h2 => ?_) (fun h2 => ?_)
  ·rw [zdb] at h2
   have h2 : set.getLsbD k = true := by simpa using h2
   have hen := hset k h1 h2
   obtain ⟨i, r, hi, hr⟩ := rul_get (p := p) (s := ⟨g, c, k⟩) (by simpa [zdl] using hen)
   (repeat (first | refine zy ?_ | refine yac rfl rfl (zfx h h1) rfl rfl (ynd 29 (y := i64 i) rfl (ymp hi) ?_) | refine yac rfl rfl (mmove_con h h1 hr) rfl rfl ?_))
   have hrow : ztn p (ybk p g) ⟨g, c, k⟩ i = zqz p g c k := by unfold zqz; rw [hi]; rfl
   refine yav tok rfl rfl rfl rfl (by omega) (by omega) rfl rfl ?_
   refine yvc tok rfl rfl rfl rfl rfl rfl (by rw [List.length_map, hkl]; omega) rfl (congrArg (fun z => yad ((10, some (LObj.vec z)) :: _)) (show _ = (zio p g c set (k + 1)).map yaq by rw [zgu hst, h2, if_pos rfl, List.map_set, hrow]; simp)) rfl rfl ?_
   (try refine zy ?_)
   exact zgl (k + 1) (by omega) (by omega) (by exact zs) (ybq (yal rfl yay))
  ·rw [zdb] at h2
   have h2 : set.getLsbD k = false := by simpa using h2
   (try refine zy ?_)
   refine zgl (k + 1) (by omega) (by omega) (by exact zs) (hsE (by rw [stpK_same h1 h2]))
 ·simp at h1
  obtain rfl : k = c.length := by omega
  (try refine zy ?_)
  refine yaf ?_; refine ⟨_, rfl, ?_⟩
  rw [stpK_all]
  exact frz_cfgV rfl (by rw [yko])
end
section
open Go.RowKit
theorem ywo {p : ProgD} {g : GraphD} {c : List (List Int)} (hc : c.length ≤ 24) (v : Nat) : (ykl p g c).getLsbD v = (decide (v < c.length) && zdl p g c v) := by
 unfold ykl
 rcases Nat.lt_or_ge v 32 with h | h
 ·exact yox _ _ _ h
 ·rw [BitVec.getLsbD_of_ge _ _ h, show decide (v < c.length) = false by simp; omega]; rfl
theorem zir {A B : BitVec 32} (h : A &&& ~~~B = 0#32) {v : Nat} (hv : A.getLsbD v = true) : B.getLsbD v = true := by
 rcases Nat.lt_or_ge v 32 with h9 | h9
 ·have := congrArg (fun X => BitVec.getLsbD X v) h
  simp only [BitVec.getLsbD_and, BitVec.getLsbD_not, hv, BitVec.getLsbD_zero, Bool.true_and] at this
  simpa [h9] using this
 ·rw [BitVec.getLsbD_of_ge _ _ h9] at hv; cases hv
theorem CfgOk.step {p : ProgD} {g : GraphD} {c : List (List Int)} (h : CfgOk p g c) (set : BitVec 32) : CfgOk p g (yzd p g c set) := ⟨h.fair, stp_check h.fair h.chk set⟩
theorem sstep_con {p : ProgD} {g : GraphD} {c : List (List Int)} (h : CfgOk p g c) (set : BitVec 32) (h0 : set ≠ 0#32) (hsub : set &&& ~~~(ykl p g c) = 0#32) : Con Tryz.prog 62 [ypd p, yin g, yfh c, ycm set] (.tup [yfh (yzd p g c set), i64 0]) := by
 have hm := ytd p g c h.fair h.cin
 rw [h.chk] at hm
 have h24 := h.n24
 have hl := h.len
 have hs := zfy h set fun v hv hb => by
  have := zir hsub hb
  rw [ywo (by omega)] at this
  simp only [Bool.and_eq_true] at this
  exact this.2
 refine yan Tryz.func62 rfl rfl Tryz.ntmps62 Tryz.results62 rfl rfl ?_
 (repeat (first | refine zy ?_ | refine yac rfl rfl hm rfl rfl ?_ | refine yac rfl rfl (yno p g h.fair h.fit) rfl rfl ?_))
 refine yau 24 rfl (fun h1 => ?_) (fun h1 => ?_)
 ·have : set = 0#32 := by simpa [ygv] using h1
  exact absurd this h0
 (repeat (first | refine yid tok rfl (by constructor <;> omega) rfl rfl ?_ | refine yel rfl rfl (by omega) rfl rfl ?_ | refine ykr rfl rfl (by omega) rfl rfl ?_ | refine yic rfl rfl rfl rfl ?_ | refine yig rfl rfl rfl rfl ?_ | refine ymi rfl rfl rfl rfl ?_ | refine ybo rfl rfl rfl rfl ?_ | refine zI ?_ | refine zL ?_ | refine zC ?_ | refine ydw ?_ | refine ydl ?_ | refine zR ?_ | refine zD ?_ | refine zK ?_ | refine zB ?_ | refine zA ?_ | refine zS ?_ | refine zU ?_ | refine zV ?_ | refine zF ?_ | refine zN ?_ | with_reducible refine ybl ?_ | with_reducible refine ycc ?_ | refine ybr ?_ | refine ybx ?_ | refine yco ?_ | refine zT ?_ | refine zE ?_ | refine zX ?_ | refine yac rfl rfl (yjv h) rfl rfl ?_))
 refine yag rfl (fun h2 => ?_) (fun h2 => ?_)
 ·rw [ypb, hsub] at h2; simp at h2
 ·(repeat (first | refine zy ?_ | refine yac rfl rfl hs rfl rfl ?_))
  refine yaf ?_; refine ⟨_, rfl, ?_⟩
  exact Frz.pure
end
section
open Go.RowKit
def ynm (c : List (List Int)) : Bool := decide (c.length ≤ 30) && c.all fun r => decide (r.length ≤ 10)
theorem zfo {c : List (List Int)} (h : ynm c = true) : yvz c := by
 simp only [ynm, Bool.and_eq_true, decide_eq_true_eq, List.all_eq_true] at h
 exact ⟨by omega, fun r hr => by have := h.2 r hr; omega⟩
theorem yuj (c : List (List Int)) : Con Tryz.prog 18 [yfh c] (ycp (ynm c)) := by
 refine yan Tryz.func18 rfl rfl Tryz.ntmps18 Tryz.results18 rfl rfl ?_
 (try refine zy ?_)
 refine yag rfl (fun h => ?_) (fun h => ?_)
 ·(try refine zy ?_)
  refine yaf ?_; refine ⟨_, rfl, ?_⟩
  simp at h
  exact yai (by simp [ynm]; omega)
 have hl : c.length ≤ 30 := by simp at h; omega
 (try refine zy ?_)
 refine ycy (α := Nat) (fun k => [(3, i64 k), (0, yfh c)]) (fun k => []) (fun k => c.length - k) (fun k => k ≤ c.length ∧ (c.take k).all (fun r => decide (r.length ≤ 10)) = true) 0 ⟨by omega, rfl⟩ (by exact zs) (by exact zh) ?_
 intro k ⟨hk, hok⟩
 (try refine zy ?_)
 refine yag rfl (fun h1 => ?_) (fun h1 => ?_)
 ·simp at h1
  obtain ⟨r, hr⟩ := ycz h1
  (try refine zy ?_)
  refine yag rfl (fun h2 => ?_) (fun h2 => ?_)
  ·(try refine zy ?_)
   refine yaf ?_; refine ⟨_, rfl, ?_⟩
   simp at h2
   exact yai (by rw [ynm, ylt hr (by simp; omega), Bool.and_false])
  ·(try refine zy ?_)
   simp at h2
   exact rnd (k + 1) ⟨by omega, ynf hr hok (by simp; omega)⟩ (by omega) (by exact zs) (by exact zh)
 ·simp at h1
  obtain rfl : k = c.length := by omega
  (try refine zy ?_)
  refine yaf ?_; refine ⟨_, rfl, ?_⟩
  rw [List.take_length] at hok
  exact yai (by simp only [ynm, hok, hl]; rfl)
end
end Go.Proofs.YtgpbgfpjlhoicaaGreatDoor
