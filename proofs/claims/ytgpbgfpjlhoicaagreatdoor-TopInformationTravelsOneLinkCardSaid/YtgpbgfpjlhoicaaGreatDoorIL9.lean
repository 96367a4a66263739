/- Part 9 of the texts under TopInformationTravelsOneLink: joined, with what it needs alone. -/
import Derived.Test.YtgpbgfpjlhoicaaGreatDoorIL3
import Derived.Test.YtgpbgfpjlhoicaaGreatDoorIL6
import Derived.Test.YtgpbgfpjlhoicaaGreatDoorIL7
import Derived.Test.YtgpbgfpjlhoicaaGreatDoorIL8
set_option linter.unusedVariables false
set_option maxRecDepth 100000
namespace Go.Proofs.YtgpbgfpjlhoicaaGreatDoor
section
open Go.RowKit Go.Maps
def ymr (r : RuleD) : Bool := decide (r.name.size ≤ 40) && (decide (r.sets.length ≤ 10) && (decide (r.guard.length ≤ 250) && r.sets.all (fun s => decide (s.val.length ≤ 250))))
def yee (p : ProgD) : Bool := decide (p.name.size ≤ 40) && (decide (p.vars.length ≤ 10) && (decide (p.rules.length ≤ 16) && (p.vars.all (fun x => decide (x.name.size ≤ 40)) && p.rules.all ymr)))
theorem yvn {p : ProgD} (h : yee p = true) : ytw p := by
 unfold yee at h
 simp only [Bool.and_eq_true, decide_eq_true_eq, List.all_eq_true] at h
 refine ⟨by omega, by omega, fun r hr => ?_⟩
 have := h.2.2.2.2 r hr
 unfold ymr at this
 simp only [Bool.and_eq_true, decide_eq_true_eq, List.all_eq_true] at this
 exact ⟨by omega, by omega, fun s hs => by have := this.2.2.2 s hs; omega⟩
set_option maxHeartbeats 16000000 in
theorem lightP_any (v : Value) (p : ProgD) (w : World) (hv : ygy w v p) (hin : ygx p) :
  Calls Tryz.prog 98 #[v] w fun e w' => e = .returned (.bool (yee p)) ∧ Below w.heap.size w w' := by
 have HIN := Lib.hid hin
 obtain ⟨vv, rv, rfl, hvv, hrv⟩ := hv
 obtain ⟨a0, cap0, rfl, i1, i2, i3⟩ := hvv.open
 obtain ⟨a1, cap1, rfl, j1, j2, j3⟩ := hrv.open
 have HVC := Lib.hid i3
 have HRC := Lib.hid j3
 have hns := hin.1
 clear i3 j3 hvv hrv hin
 by_cases h40 : 40 < p.name.size
 ·have H := Lib.hid (show yee p = false by unfold yee; rw [show decide (p.name.size ≤ 40) = false by simp; omega]; rfl)
  have b1 : decide (40 < p.name.size) = true := by simp; omega
  go_enter Tryz.func98, Tryz.ntmps98
  go_wp2_with fail
  go_ret
  exact ⟨yab H.out.symm, (Below.refl _ _).alloc (Nat.le_refl _) _⟩
 have b1 : decide (40 < p.name.size) = false := by simp; omega
 have b1' : decide (40 < (p.name.size : Int)) = false := by simp; omega
 by_cases h10 : 10 < p.vars.length
 ·have H := Lib.hid (show yee p = false by unfold yee; rw [show decide (p.vars.length ≤ 10) = false by simp; omega]; simp)
  have b2 : decide (10 < p.vars.length) = true := by simp; omega
  go_enter Tryz.func98, Tryz.ntmps98
  go_wp2_with fail
  go_ret
  exact ⟨yab H.out.symm, (Below.refl _ _).alloc (Nat.le_refl _) _⟩
 have b2 : decide (10 < p.vars.length) = false := by simp; omega
 have b2' : decide (10 < (p.vars.length : Int)) = false := by simp; omega
 by_cases h16 : 16 < p.rules.length
 ·have H := Lib.hid (show yee p = false by unfold yee; rw [show decide (p.rules.length ≤ 16) = false by simp; omega]; simp)
  have b3 : decide (16 < p.rules.length) = true := by simp; omega
  go_enter Tryz.func98, Tryz.ntmps98
  go_wp2_with fail
  go_ret
  exact ⟨yab H.out.symm, (Below.refl _ _).alloc (Nat.le_refl _) _⟩
 have b3 : decide (16 < p.rules.length) = false := by simp; omega
 have b3' : decide (16 < (p.rules.length : Int)) = false := by simp; omega
 have H0 := Lib.hid (show yee p = (p.vars.all (fun x => decide (x.name.size ≤ 40)) && p.rules.all ymr) by
  unfold yee
  rw [show decide (p.name.size ≤ 40) = true by simp; omega, show decide (p.vars.length ≤ 10) = true by simp; omega, show decide (p.rules.length ≤ 16) = true by simp; omega]; rfl)
 go_enter Tryz.func98, Tryz.ntmps98
 go_wp2_with fail
 go_loopw [3] (fun i wr => ∃ k : Nat, k ≤ p.vars.length ∧ i = .int .i64 k ∧ Hid ((p.vars.take k).all (fun x => decide (x.name.size ≤ 40)) = true) ∧ Hid (Below (w.heap.size + 1) (w.alloc (.cells #[.string p.name, .slice a0 p.vars.length cap0, .slice a1 p.rules.length cap1] 25)) wr)) (fun i _ => p.vars.length - (intOf i).toNat)
 case atStart => exact ⟨0, by omega, rfl, rfl, Below.refl _ _⟩
 case round =>
  obtain ⟨k, hk, rfl, hall, hbel⟩ := hrel
  have hbw := yaz hbel.out
  have hbs := yci hbel.out
  have hbox := ycv hbel.out 1
  have hbox2 := ycv hbel.out 2
  simp at hbox hbox2
  by_cases hlt : k < p.vars.length
  ·obtain ⟨g, o, rfl, hg, hc⟩ := HVC.out (by omega)
   obtain ⟨x, hx⟩ : ∃ x, p.vars[k]? = some x := ⟨_, List.getElem?_eq_getElem hlt⟩
   obtain ⟨c0, _, _, _, _, _⟩ := hc k x hx
   rw [← hbw.cell (p := ⟨g, _, none⟩) hg] at c0
   have HGX : Hid (p.vars[k] = x) := (List.getElem?_eq_some_iff.1 hx).2
   have hxs := (HIN.out.2.1 x (List.mem_of_getElem? hx)).1
   clear hc hx
   by_cases h4 : 40 < x.name.size
   ·have H := Lib.hid (show yee p = false by rw [H0.out, ygm k hlt (by rw [HGX.out]; simp; omega)]; rfl)
    have b4 : decide (40 < x.name.size) = true := by simp; omega
    go_wp2_with fail
    go_ret
    exact ⟨yab H.out.symm, hbw⟩
   ·have HST := Lib.hid (ygn (f := fun x : VarD => decide (x.name.size ≤ 40)) k hlt hall.out (by rw [HGX.out]; simp; omega))
    have b4 : decide (40 < x.name.size) = false := by simp; omega
    go_wp2_with fail
    exact ⟨⟨k + 1, by omega, by go_num, HST, hbel⟩, by simp [intOf]; omega⟩
  ·obtain rfl : k = p.vars.length := by omega
   have H1 := Lib.hid (show yee p = p.rules.all ymr by rw [H0.out, yiy hall.out]; rfl)
   obtain ⟨wo, rfl⟩ : ∃ wo : World, wo = wr := ⟨_, rfl⟩
   go_wp2_with fail
   go_loopw [4, 5, 6] (fun i _ _ wr => ∃ k : Nat, k ≤ p.rules.length ∧ i = .int .i64 k ∧ Hid ((p.rules.take k).all ymr = true) ∧ Hid (Below (w.heap.size + 1) (w.alloc (.cells #[.string p.name, .slice a0 p.vars.length cap0, .slice a1 p.rules.length cap1] 25)) wr)) (fun i _ _ _ => p.rules.length - (intOf i).toNat)
   case atStart => exact ⟨0, by omega, rfl, rfl, hbel⟩
   case round =>
    clear hbel hbw hbs hbox hbox2 hall
    obtain ⟨k, hk, rfl, hall, hbel⟩ := hrel
    have hbw := yaz hbel.out
    have hbs := yci hbel.out
    have hbox2 := ycv hbel.out 2
    simp at hbox2
    by_cases hlt : k < p.rules.length
    ·obtain ⟨g, o, rfl, hg, hc⟩ := HRC.out (by omega)
     obtain ⟨x, hx⟩ : ∃ x, p.rules[k]? = some x := ⟨_, List.getElem?_eq_getElem hlt⟩
     obtain ⟨gv, sv, ht, hs, c0, c1, c2⟩ := hc k x hx
     have HT := Lib.hid ht
     obtain ⟨ga, gcap, rfl, _, _, _⟩ := ht.open
     obtain ⟨sa, scap, rfl, sl1, sl2, s3⟩ := yfy hs
     have HSC := Lib.hid s3
     rw [← hbw.cell (p := ⟨g, _, none⟩) hg] at c0 c1 c2
     have HGX : Hid (p.rules[k] = x) := (List.getElem?_eq_some_iff.1 hx).2
     have hxs := (HIN.out.2.2 x (List.mem_of_getElem? hx)).1
     clear hc hx ht hs s3
     by_cases h4 : 40 < x.name.size
     ·have H := Lib.hid (show yee p = false by rw [H1.out, ygm k hlt (by rw [HGX.out, ymr, show decide (x.name.size ≤ 40) = false by simp; omega]; rfl)])
      have b4 : decide (40 < x.name.size) = true := by simp; omega
      go_wp2_with fail
      go_ret
      exact ⟨yab H.out.symm, hbw.alloc (by omega) _⟩
     have b4 : decide (40 < x.name.size) = false := by simp; omega
     have b4' : decide (40 < (x.name.size : Int)) = false := by simp; omega
     by_cases h5 : 10 < x.sets.length
     ·have H := Lib.hid (show yee p = false by rw [H1.out, ygm k hlt (by rw [HGX.out, ymr, show decide (x.sets.length ≤ 10) = false by simp; omega]; simp)])
      have b5 : decide (10 < x.sets.length) = true := by simp; omega
      go_wp2_with fail
      go_ret
      exact ⟨yab H.out.symm, hbw.alloc (by omega) _⟩
     have b5 : decide (10 < x.sets.length) = false := by simp; omega
     have b5' : decide (10 < (x.sets.length : Int)) = false := by simp; omega
     by_cases h6 : 250 < x.guard.length
     ·have H := Lib.hid (show yee p = false by rw [H1.out, ygm k hlt (by rw [HGX.out, ymr, show decide (x.guard.length ≤ 250) = false by simp; omega]; simp)])
      have b6 : decide (x.guard.length ≤ 250) = false := by simp; omega
      go_wp2_with (go_at_call 167; refine (yrl _ x.guard _ (by exact HT.out.below (hbw.alloc (by omega) _))).mono ?_; rintro e w1 ⟨rfl, rfl⟩)
      go_ret
      exact ⟨yab H.out.symm, hbw.alloc (by omega) _⟩
     have b6 : decide (x.guard.length ≤ 250) = true := by simp; omega
     have HR := Lib.hid (show ymr x = x.sets.all (fun s => decide (s.val.length ≤ 250)) by
      unfold ymr
      rw [show decide (x.name.size ≤ 40) = true by simp; omega, show decide (x.sets.length ≤ 10) = true by simp; omega, b6]; rfl)
     obtain ⟨wo2, rfl⟩ : ∃ wo2 : World, wo2 = wr := ⟨_, rfl⟩
     go_wp2_with (go_at_call 167; refine (yrl _ x.guard _ (by exact HT.out.below (hbw.alloc (by omega) _))).mono ?_; rintro e w1 ⟨rfl, rfl⟩)
     go_loop [6] (fun i => ∃ j : Nat, j ≤ x.sets.length ∧ i = .int .i64 j ∧ Hid ((x.sets.take j).all (fun s => decide (s.val.length ≤ 250)) = true)) (fun i => x.sets.length - (intOf i).toNat)
     case atStart => exact ⟨0, by omega, rfl, rfl⟩
     case round =>
      obtain ⟨j, hj, rfl, hall2⟩ := hrel
      by_cases hjl : j < x.sets.length
      ·obtain ⟨g2, o2, rfl, hg2, hc2⟩ := HSC.out (by omega)
       obtain ⟨y, hy⟩ : ∃ y, x.sets[j]? = some y := ⟨_, List.getElem?_eq_getElem hjl⟩
       obtain ⟨tv, hty, d0, d1⟩ := hc2 j y hy
       have HTY := Lib.hid hty
       obtain ⟨ya, ycap, rfl, _, _, _⟩ := hty.open
       have hba := hbw.alloc (show w.heap.size ≤ wo2.heap.size by omega) (.cells #[.string x.name, .slice ga x.guard.length gcap, .slice (some ⟨g2, o2, none⟩) x.sets.length scap] 97)
       rw [← hba.cell (p := ⟨g2, _, none⟩) hg2] at d1
       have HGY : Hid (x.sets[j] = y) := (List.getElem?_eq_some_iff.1 hy).2
       clear hc2 hy hty d0
       by_cases h7 : 250 < y.val.length
       ·have b7 : decide (y.val.length ≤ 250) = false := by simp; omega
        have H := Lib.hid (show yee p = false by rw [H1.out, ygm k hlt (by rw [HGX.out, HR.out, ygm j hjl (by rw [HGY.out]; exact b7)])])
        go_wp2_with (go_at_call 167; refine (yrl _ y.val _ (by exact HTY.out.below (hbw.alloc (by omega) _))).mono ?_; rintro e w1 ⟨rfl, rfl⟩)
        go_ret
        exact ⟨yab H.out.symm, hba⟩
       ·have b7 : decide (y.val.length ≤ 250) = true := by simp; omega
        have HST := Lib.hid (ygn (f := fun s : SetD => decide (s.val.length ≤ 250)) j hjl hall2.out (by rw [HGY.out]; exact b7))
        go_wp2_with (go_at_call 167; refine (yrl _ y.val _ (by exact HTY.out.below (hbw.alloc (by omega) _))).mono ?_; rintro e w1 ⟨rfl, rfl⟩)
        exact ⟨⟨j + 1, by omega, by go_num, HST⟩, by simp [intOf]; omega⟩
      ·obtain rfl : j = x.sets.length := by omega
       have HST := Lib.hid (ygn (f := ymr) k hlt hall.out (by rw [HGX.out, HR.out]; exact yiy hall2.out))
       go_wp2_with fail
       exact ⟨⟨k + 1, by omega, by go_num, HST, hbel.out.alloc hbs _⟩, by simp [intOf]; omega⟩
    ·obtain rfl : k = p.rules.length := by omega
     have H := Lib.hid (show yee p = true by rw [H1.out, yiy hall.out])
     go_wp2_with fail
     go_ret
     exact ⟨yab H.out.symm, hbw⟩
end
set_option maxHeartbeats 8000000
section
open Go.RowKit
theorem tvalid_con (p : ProgD) (hin : ygx p) (hl : ytw p) : Con Tryz.prog 141 [ypd p] (ycp (ycx p == 0)) :=
 ydn ⟨_, Tryz.func141, rfl, rfl⟩ fun w us ok hok hr => by
  obtain ⟨u, rfl, h1⟩ := ytj hr
  exact validP_any u p w (yme h1 hok) hin hl
theorem rtvalid_con (p : ProgD) (hin : ygx p) (hl : ytw p) : Con Tryz.prog 173 [ypd p] (ycp (ycx p == 0)) :=
 ydn ⟨_, Tryz.func173, rfl, rfl⟩ fun w us ok hok hr => by
  obtain ⟨u, rfl, h1⟩ := ytj hr
  exact rvalidP_any u p w (yme h1 hok) hin hl
theorem lightP_con (p : ProgD) (hin : ygx p) : Con Tryz.prog 98 [ypd p] (ycp (yee p)) :=
 ydn ⟨_, Tryz.func98, rfl, rfl⟩ fun w us ok hok hr => by
  obtain ⟨u, rfl, h1⟩ := ytj hr
  exact lightP_any u p w (yme h1 hok) hin
end
section
open Go.RowKit
theorem yuf (g : GraphD) (hlen : g.ids.length ≤ 1000) : Con Tryz.prog 174 [yin g] (i64 (ybt g.ids)) := by
 refine yan Tryz.func174 rfl rfl Tryz.ntmps174 Tryz.results174 rfl rfl ?_
 (try refine zy ?_)
 refine ycy (α := Nat) (fun k => [(4, i64 k), (3, i64 (ybt (g.ids.take k))), (1, .lp 1 0)]) (fun k => [(1, some (.cells [yaq g.ids, ybd g.ports]))]) (fun k => g.ids.length - k) (fun k => k ≤ g.ids.length) 0 (by omega) (by exact zs) (by exact zh) ?_
 intro k hk
 (try refine zy ?_)
 refine yag rfl (fun h => ?_) (fun h => ?_)
 ·simp at h
  obtain ⟨x, hx⟩ := ycz h
  (try refine zy ?_)
  refine rnd (k + 1) (by omega) (by omega) ?_ (by exact zh)
  refine yam rfl (yam ?_ (by exact zs))
  rw [yhp _ _ _ hx]; rfl
 ·simp at h
  obtain rfl : k = g.ids.length := by omega
  (try refine zy ?_)
  refine yaf ?_; refine ⟨_, rfl, ?_⟩
  exact yae (by rw [List.take_length])
theorem max_con (ids : List Int) (hlen : ids.length ≤ 1000) (h1 : 1 ≤ ids.length) (h0 : ∀ x ∈ ids, 0 ≤ x) : Con Tryz.prog 193 [yaq ids] (i64 (ybt ids)) := by
 obtain ⟨a, ha⟩ := ycz (show 0 < ids.length by omega)
 have ha0 := h0 a (List.mem_of_getElem? ha)
 refine yan Tryz.func193 rfl rfl Tryz.ntmps193 Tryz.results193 rfl rfl ?_
 (try refine zy ?_)
 refine yag rfl (fun h => ?_) (fun h => ?_)
 ·simp at h; omega
 (try refine zy ?_)
 refine ycy (α := Nat) (fun k => [(4, i64 k), (3, i64 (ybt (ids.take k))), (0, yaq ids)]) (fun k => []) (fun k => ids.length - k) (fun k => 1 ≤ k ∧ k ≤ ids.length) 1 (by omega) ?_ (by exact zh) ?_
 ·refine yam rfl (yam ?_ (by exact zs))
  have e : ybt (ids.take 1) = a := by
   rw [yhp ids 0 a ha]
   simp [ybt]
   omega
  rw [e]; rfl
 intro k ⟨hk1, hk⟩
 (try refine zy ?_)
 refine yag rfl (fun h => ?_) (fun h => ?_)
 ·simp at h
  obtain ⟨x, hx⟩ := ycz h
  (try refine zy ?_)
  refine rnd (k + 1) (by omega) (by omega) ?_ (by exact zh)
  refine yam rfl (yam ?_ (by exact zs))
  rw [yhp _ _ _ hx]; rfl
 ·simp at h
  obtain rfl : k = ids.length := by omega
  (try refine zy ?_)
  refine yaf ?_; refine ⟨_, rfl, ?_⟩
  exact yae (by rw [List.take_length])
theorem zcg {h : Nat → Option LObj} {a b a' b' : Int} (e1 : a = a') (e2 : b = b') : Frz h (.tup [.v (.int .i64 a), .v (.int .i64 b)]) (.tup [i64 a', i64 b']) := by subst e1 e2; exact Frz.pure
def zsz (q : Int × Int) : AV := .tup [i64 q.1, i64 q.2]
theorem bounds1_con (x : VarD) (g : GraphD) (v : Int) (hx : ylq x = true) (hg : ydd g = true) : Con Tryz.prog 192 [.agg (ydu x), yin g, i64 v] (.tup [i64 x.lo, i64 (x.hi + x.perNode * g.ports.length + x.perID * ybt g.ids)]) := by
 have hf := ybp hg
 have hn := yhz hx
 have ht := zdg hx hg
 have hlen : (g.ids.length : Int) = g.ports.length := by omega
 have ht2 : 0 ≤ x.perNode * (g.ids.length : Int) ∧ x.perNode * (g.ids.length : Int) ≤ 255 * 24 := by rw [hlen]; omega
 refine yan Tryz.func192 rfl rfl Tryz.ntmps192 Tryz.results192 rfl rfl ?_
 (repeat (first | refine zy ?_ | refine yac rfl rfl (max_con g.ids (by omega) (by omega) (fun y hy => (hf.2.2.2.1 y hy).1)) rfl rfl ?_))
 refine yaf ?_; refine ⟨_, rfl, ?_⟩
 exact zcg rfl (by rw [hlen])
theorem bounds2_con (x : VarD) (g : GraphD) (v : Int) : Con Tryz.prog 194 [.agg (ydu x), yin g, i64 v] (.tup [i64 0, i64 1]) := by
 refine yan Tryz.func194 rfl rfl Tryz.ntmps194 Tryz.results194 rfl rfl ?_
 (try refine zy ?_)
 refine yaf ?_; refine ⟨_, rfl, ?_⟩
 exact zcg rfl rfl
theorem bounds3_con (x : VarD) (g : GraphD) (v : Int) (ls : List Lk) (h0 : 0 ≤ v) (hv : g.ports[v.toNat]? = some ls) (hl : ls.length ≤ 1000) : Con Tryz.prog 195 [.agg (ydu x), yin g, i64 v] (.tup [i64 (-1), i64 (ls.length - 1)]) := by
 refine yan Tryz.func195 rfl rfl Tryz.ntmps195 Tryz.results195 rfl rfl ?_
 (try refine zy ?_)
 refine yaf ?_; refine ⟨_, rfl, ?_⟩
 exact zcg rfl rfl
theorem ybj (x : VarD) (g : GraphD) (v : Int) (ls : List Lk) (hx : ylq x = true) (hg : ydd g = true) (h0 : 0 ≤ v) (hv : g.ports[v.toNat]? = some ls) (hl : ls.length ≤ 1000) :
  Con Tryz.prog 132 [.agg (ydu x), yin g, i64 v] (zsz (yax x g ls.length)) := by
 have hn := yhz hx
 refine yan Tryz.func132 rfl rfl Tryz.ntmps132 Tryz.results132 rfl rfl ?_
 (try refine zy ?_)
 refine zmx (yoc ?_)
 (try refine zy ?_)
 refine yki tok rfl rfl rfl (by omega) (row := [i64 1, .fn 192 []]) rfl rfl rfl ?_
 (try refine zy ?_)
 refine yag rfl (fun h1 => ?_) (fun h1 => ?_)
 ·simp at h1
  (repeat (first | refine zy ?_ | refine yac rfl rfl (bounds1_con x g v hx hg) rfl rfl ?_))
  refine yaf ?_; refine ⟨_, rfl, ?_⟩
  unfold yax
  rw [if_neg (by omega), if_neg (by omega)]
  exact Frz.pure
 simp at h1
 (try refine zy ?_)
 refine ywb (t' := [(17, i64 1), (16, i64 3), (15, .sl 2 [[i64 1, .fn 192 []], [i64 2, .fn 194 []], [i64 3, .fn 195 []]]), (3, .lp 3 0), (4, .lp 4 0), (2, i64 v)]) (h' := [(3, some (.cells (ydu x))), (4, some (.cells [yaq g.ids, ybd g.ports]))]) (yoc ?_) (by exact zs) (by exact zh)
 (try refine zy ?_)
 refine yki tok rfl rfl rfl (by omega) (row := [i64 2, .fn 194 []]) rfl rfl rfl ?_
 (try refine zy ?_)
 refine yag rfl (fun h2 => ?_) (fun h2 => ?_)
 ·simp at h2
  (repeat (first | refine zy ?_ | refine yac rfl rfl (bounds2_con x g v) rfl rfl ?_))
  refine yaf ?_; refine ⟨_, rfl, ?_⟩
  unfold yax
  rw [if_pos (by omega)]
  exact Frz.pure
 simp at h2
 (try refine zy ?_)
 refine ywb (t' := [(17, i64 2), (16, i64 3), (15, .sl 2 [[i64 1, .fn 192 []], [i64 2, .fn 194 []], [i64 3, .fn 195 []]]), (3, .lp 3 0), (4, .lp 4 0), (2, i64 v)]) (h' := [(3, some (.cells (ydu x))), (4, some (.cells [yaq g.ids, ybd g.ports]))]) (yoc ?_) (by exact zs) (by exact zh)
 (try refine zy ?_)
 refine yki tok rfl rfl rfl (by omega) (row := [i64 3, .fn 195 []]) rfl rfl rfl ?_
 (try refine zy ?_)
 refine yag rfl (fun h3 => ?_) (fun h3 => ?_)
 ·simp at h3
  (repeat (first | refine zy ?_ | refine yac rfl rfl (bounds3_con x g v ls h0 hv hl) rfl rfl ?_))
  refine yaf ?_; refine ⟨_, rfl, ?_⟩
  unfold yax
  rw [if_neg (by omega), if_pos (by omega)]
  exact Frz.pure
 ·simp at h3
  omega
end
section
open Go.RowKit
theorem bring_con (kind lo hi value : Int) : Con Tryz.prog 230 [i64 kind, .agg [i64 lo, i64 hi], i64 value] (i64 (yks kind lo hi value)) := by
 refine yan Tryz.func230 rfl rfl Tryz.ntmps230 Tryz.results230 rfl rfl ?_
 (try refine zy ?_)
 refine yau 12 rfl (fun h1 => ?_) (fun h1 => ?_)
 ·simp at h1
  (try refine zy ?_)
  refine yag rfl (fun h2 => ?_) (fun h2 => ?_)
  ·simp at h2
   (try refine zy ?_)
   refine yaf ?_; refine ⟨_, rfl, ?_⟩
   exact yae (by unfold yks; rw [if_pos ⟨h1, h2⟩])
  simp at h2
  (try refine zy ?_)
  refine yag rfl (fun h3 => ?_) (fun h3 => ?_)
  ·simp at h3
   (try refine zy ?_)
   refine yaf ?_; refine ⟨_, rfl, ?_⟩
   exact yae (by unfold yks; rw [if_neg (by omega), if_pos h3])
  simp at h3
  (try refine zy ?_)
  refine yag rfl (fun h4 => ?_) (fun h4 => ?_)
  ·simp at h4; omega
  ·(try refine zy ?_)
   refine yaf ?_; refine ⟨_, rfl, ?_⟩
   exact yae (by unfold yks; rw [if_neg (by omega), if_neg h3, if_neg (by omega)])
 ·simp at h1
  (try refine zy ?_)
  refine yag rfl (fun h3 => ?_) (fun h3 => ?_)
  ·simp at h3
   (try refine zy ?_)
   refine yaf ?_; refine ⟨_, rfl, ?_⟩
   exact yae (by unfold yks; rw [if_neg (by omega), if_pos h3])
  simp at h3
  (try refine zy ?_)
  refine yag rfl (fun h4 => ?_) (fun h4 => ?_)
  ·(try refine zy ?_)
   refine yaf ?_; refine ⟨_, rfl, ?_⟩
   exact yae (by unfold yks; rw [if_neg (by omega), if_neg h3, if_pos h1])
  ·simp at h4; omega
structure Fair (p : ProgD) (g : GraphD) : Prop where
 pin : ygx p
 light : ytw p
 lg : yle g = true
theorem Fair.vlen {p : ProgD} {g : GraphD} (h : Fair p g) : p.vars.length ≤ 1000 := h.light.1
theorem Fair.glen {p : ProgD} {g : GraphD} (h : Fair p g) : g.ids.length ≤ 30 ∧ g.ports.length ≤ 30 ∧ ∀ l ∈ g.ports, l.length ≤ 30 := (yer g).1 h.lg
theorem zjr (p : ProgD) (g : GraphD) (v x : Int) (ls : List Lk) (y : VarD) (hy : ylq y = true) (hg : ydd g = true) (h0 : 0 ≤ v) (hv : g.ports[v.toNat]? = some ls) (hl : ls.length ≤ 1000) (hx0 : 0 ≤ x) (hx : p.vars[x.toNat]? = some y) :
  Con Tryz.prog 112 [ypd p, yin g, i64 v, i64 x] (zsz (yax y g ls.length)) := by
 have hn := yhz hy
 have ht := zdg hy hg
 have hf := ybp hg
 refine yan Tryz.func112 rfl rfl Tryz.ntmps112 Tryz.results112 rfl rfl ?_
 (try refine zy ?_)
 refine yag rfl (fun h1 => ?_) (fun h1 => ?_)
 ·simp at h1
  (try refine zy ?_)
  refine yaf ?_; refine ⟨_, rfl, ?_⟩
  unfold yax; rw [if_pos h1]; exact Frz.pure
 simp at h1
 (try refine zy ?_)
 refine yag rfl (fun h2 => ?_) (fun h2 => ?_)
 ·simp at h2
  (try refine zy ?_)
  refine yaf ?_; refine ⟨_, rfl, ?_⟩
  unfold yax; rw [if_neg h1, if_pos h2]; exact Frz.pure
 simp at h2
 (repeat (first | refine zy ?_ | refine yac rfl rfl (yuf g (by omega)) rfl rfl ?_))
 refine yaf ?_; refine ⟨_, rfl, ?_⟩
 unfold yax; rw [if_neg h1, if_neg h2]; exact Frz.pure
end
section
open Go.RowKit
theorem zce {p : ProgD} {g : GraphD} {y : VarD} (h1 : ycx p = 0) (h2 : ydd g = true) (hy : y ∈ p.vars) (hb : yzv g y = false) : yhv p g = 9 := by
 unfold yhv
 rw [if_pos h1, if_pos h2, if_neg]
 intro h
 rw [List.all_eq_true.1 h y hy] at hb; cases hb
theorem fits_con (p : ProgD) (g : GraphD) (hf : Fair p g) : Con Tryz.prog 130 [ypd p, yin g] (i64 (yhv p g)) := by
 have hgl := hf.glen
 have hvl := hf.vlen
 refine yan Tryz.func130 rfl rfl Tryz.ntmps130 Tryz.results130 rfl rfl ?_
 (repeat (first | refine zy ?_ | refine yac rfl rfl (tvalid_con p hf.pin hf.light) rfl rfl ?_))
 refine yag rfl (fun h1 => ?_) (fun h1 => ?_)
 ·simp at h1
  (try refine zy ?_)
  refine yaf ?_; refine ⟨_, rfl, ?_⟩
  exact yae (by unfold yhv; rw [if_neg h1])
 simp at h1
 (repeat (first | refine zy ?_ | refine yac rfl rfl (zac g hf.lg) rfl rfl ?_))
 refine yag rfl (fun h2 => ?_) (fun h2 => ?_)
 ·simp at h2
  (try refine zy ?_)
  refine yaf ?_; refine ⟨_, rfl, ?_⟩
  exact yae (by unfold yhv; rw [if_pos h1, if_neg (by simp [h2])])
 simp at h2
 have hvf := ybp h2
 obtain ⟨ls, hls⟩ := ycz (show 0 < g.ports.length by omega)
 have hll := hgl.2.2 ls (List.mem_of_getElem? hls)
 (try refine zy ?_)
 refine ycy (α := Nat) (fun k => [(18, i64 k), (17, i64 p.vars.length), (16, .sl 6 (p.vars.map ydu)), (2, .lp 2 0), (3, .lp 3 0)]) (fun k => [(2, some (.cells [zdc p.name, .sl 6 (p.vars.map ydu), .sl 3 (p.rules.map yfb)])), (3, some (.cells [yaq g.ids, ybd g.ports]))]) (fun k => p.vars.length - k) (fun k => k ≤ p.vars.length ∧ ∀ y ∈ p.vars.take k, yzv g y = true) 0 ⟨by omega, by simp⟩ (by exact zs) (by exact zh) ?_
 intro k ⟨hk, hok⟩
 (try refine zy ?_)
 refine yag rfl (fun h => ?_) (fun h => ?_)
 ·simp at h
  obtain ⟨y, hy⟩ := ycz h
  have hym := List.mem_of_getElem? hy
  have hnum := (ydh h1).2.2.2 y hym
  have hbd := ywg (deg := (ls.length : Int)) hnum h2 (by omega)
  have hstep : yzv g y = true → ∀ z ∈ p.vars.take (k + 1), yzv g z = true := by
   intro hfy z hz
   rw [ygu hy] at hz
   rcases List.mem_append.1 hz with hz | hz
   ·exact hok z hz
   ·simp at hz; subst hz; exact hfy
  (try refine zy ?_)
  refine yag rfl (fun h3 => ?_) (fun h3 => ?_)
  ·simp at h3
   (try refine zy ?_)
   refine rnd (k + 1) ⟨by omega, hstep (by simp [yzv, h3])⟩ (by omega) (by exact zs) (by exact zh)
  simp at h3
  have hsame : yax y g ls.length = yax y g 0 := by unfold yax; rw [if_neg (by omega), if_neg (by omega), if_neg (by omega), if_neg (by omega)]
  (repeat (first | refine zy ?_ | refine yac rfl rfl (ybj y g 0 ls hnum h2 (by omega) hls (by omega)) rfl rfl ?_))
  refine yau 34 rfl (fun h4 => ?_) (fun h4 => ?_)
  ·simp at h4
   (try refine zy ?_)
   refine yaf ?_; refine ⟨_, rfl, ?_⟩
   exact yae (zce h1 h2 hym (by rw [hsame] at h4; simp [yzv, h3]; omega)).symm
  simp at h4
  (try refine zy ?_)
  refine yag rfl (fun h5 => ?_) (fun h5 => ?_)
  ·simp at h5
   (try refine zy ?_)
   refine yaf ?_; refine ⟨_, rfl, ?_⟩
   exact yae (zce h1 h2 hym (by rw [hsame] at h5; simp [yzv, h3]; omega)).symm
  ·simp at h5
   (try refine zy ?_)
   refine rnd (k + 1) ⟨by omega, hstep (by rw [hsame] at h4 h5; simp [yzv, h3]; omega)⟩ (by omega) (by exact zs) (by exact zh)
 ·simp at h
  obtain rfl : k = p.vars.length := by omega
  rw [List.take_length] at hok
  (try refine zy ?_)
  refine yaf ?_; refine ⟨_, rfl, ?_⟩
  exact yae (yft.2 ⟨h1, h2, hok⟩).symm
theorem rfits_con (p : ProgD) (g : GraphD) (hf : Fair p g) : Con Tryz.prog 111 [ypd p, yin g] (i64 (yhv p g)) := by
 have hgl := hf.glen
 have hvl := hf.vlen
 refine yan Tryz.func111 rfl rfl Tryz.ntmps111 Tryz.results111 rfl rfl ?_
 (repeat (first | refine zy ?_ | refine yac rfl rfl (rtvalid_con p hf.pin hf.light) rfl rfl ?_))
 refine yag rfl (fun h1 => ?_) (fun h1 => ?_)
 ·simp at h1
  (try refine zy ?_)
  refine yaf ?_; refine ⟨_, rfl, ?_⟩
  exact yae (by unfold yhv; rw [if_neg h1])
 simp at h1
 (repeat (first | refine zy ?_ | refine yac rfl rfl (rvalid_con g hf.lg) rfl rfl ?_))
 refine yag rfl (fun h2 => ?_) (fun h2 => ?_)
 ·simp at h2
  (try refine zy ?_)
  refine yaf ?_; refine ⟨_, rfl, ?_⟩
  exact yae (by unfold yhv; rw [if_pos h1, if_neg (by simp [h2])])
 simp at h2
 have hvf := ybp h2
 obtain ⟨ls, hls⟩ := ycz (show 0 < g.ports.length by omega)
 have hll := hgl.2.2 ls (List.mem_of_getElem? hls)
 (try refine zy ?_)
 refine ycy (α := Nat) (fun k => [(5, i64 k), (2, .lp 2 0), (3, .lp 3 0)]) (fun k => [(2, some (.cells [zdc p.name, .sl 6 (p.vars.map ydu), .sl 3 (p.rules.map yfb)])), (3, some (.cells [yaq g.ids, ybd g.ports]))]) (fun k => p.vars.length - k) (fun k => k ≤ p.vars.length ∧ ∀ y ∈ p.vars.take k, yzv g y = true) 0 ⟨by omega, by simp⟩ (by exact zs) (by exact zh) ?_
 intro k ⟨hk, hok⟩
 (try refine zy ?_)
 refine yag rfl (fun h => ?_) (fun h => ?_)
 ·simp at h
  obtain ⟨y, hy⟩ := ycz h
  have hym := List.mem_of_getElem? hy
  have hnum := (ydh h1).2.2.2 y hym
  have hbd := ywg (deg := (ls.length : Int)) hnum h2 (by omega)
  have hstep : yzv g y = true → ∀ z ∈ p.vars.take (k + 1), yzv g z = true := by
   intro hfy z hz
   rw [ygu hy] at hz
   rcases List.mem_append.1 hz with hz | hz
   ·exact hok z hz
   ·simp at hz; subst hz; exact hfy
  (repeat (first | refine zy ?_ | refine yac rfl rfl (zjr p g 0 k ls y hnum h2 (by omega) hls (by omega) (by omega) (by simpa using hy)) rfl rfl ?_))
  refine yau 35 rfl (fun h3 => ?_) (fun h3 => ?_)
  ·simp at h3
   have hsame : yax y g ls.length = yax y g 0 := by unfold yax; rw [if_neg (by omega), if_neg (by omega), if_neg (by omega), if_neg (by omega)]
   (repeat (first | refine zy ?_ | refine yac rfl rfl (zag _ _ _) rfl rfl ?_))
   refine yag rfl (fun h4 => ?_) (fun h4 => ?_)
   ·simp [inB] at h4
    (try refine zy ?_)
    refine yaf ?_; refine ⟨_, rfl, ?_⟩
    exact yae (zce h1 h2 hym (by rw [hsame] at h4; simp [yzv, h3]; omega)).symm
   ·simp [inB] at h4
    (try refine zy ?_)
    refine rnd (k + 1) ⟨by omega, hstep (by rw [hsame] at h4; simp [yzv, h3]; omega)⟩ (by omega) (by exact zs) (by exact zh)
  ·simp at h3
   (try refine zy ?_)
   refine rnd (k + 1) ⟨by omega, hstep (by simp [yzv, h3])⟩ (by omega) (by exact zs) (by exact zh)
 ·simp at h
  obtain rfl : k = p.vars.length := by omega
  rw [List.take_length] at hok
  (try refine zy ?_)
  refine yaf ?_; refine ⟨_, rfl, ?_⟩
  exact yae (yft.2 ⟨h1, h2, hok⟩).symm
end
section
open Go.RowKit
end
section
open Go.RowKit
end
section
open Go.RowKit
theorem fit_ok {x : VarD} {g : GraphD} {deg : Int} (hf : yzv g x = true) (hx : ylq x = true) (hd : 0 ≤ deg ∧ deg ≤ 30) : (yax x g deg).1 ≤ (yax x g deg).2 ∧ (yax x g deg).2 - (yax x g deg).1 + 1 ≤ 4096 := by
 have h1 := yhz hx
 unfold yzv at hf
 unfold yax at hf ⊢
 rcases h1.1 with hk | hk | hk
 ·simp [hk] at hf ⊢; omega
 ·simp [hk]
 ·simp [hk]; omega
theorem bring_in {k lo hi a : Int} (h : lo ≤ hi) (h3 : k = 3 → lo = -1) : lo ≤ yks k lo hi a ∧ yks k lo hi a ≤ hi := by
 unfold yks; split
 ·omega
 ·split
  ·omega
  ·split <;> omega
theorem yua {x : VarD} {g : GraphD} {deg : Int} (h : x.kind = 3) : yax x g deg = (-1, deg - 1) := by unfold yax; rw [if_neg (by omega), if_pos h]
end
section
open Go.RowKit
def yem (l : List (Int × Int)) : List AV := (l.map zby).flatten
theorem ywt (l : List (Int × Int)) : (yem l).length = 2 * l.length := by
 unfold yem
 rw [zlf (k := 2) (fun x => rfl)]
 omega
theorem zev : ∀ {l : List (Int × Int)} {i : Nat} {y : Int × Int}, i < l.length → ((yem l).set (i * 2) (i64 y.1)).set (i * 2 + 1) (i64 y.2) = yem (l.set i y)
 | [], i, y, h => by simp at h
 | (a, b) :: l, 0, y, h => by simp [yem, zby]
 | (a, b) :: l, i + 1, y, h => by
  have ih := zev (l := l) (i := i) (y := y) (by simpa using h)
  have e : yem ((a, b) :: l) = i64 a :: i64 b :: yem l := by simp [yem, zby]
  rw [List.set_cons_succ, e, show (i + 1) * 2 = i * 2 + 1 + 1 by omega, show i * 2 + 1 + 1 + 1 = i * 2 + 1 + 1 + 1 from rfl]
  simp only [List.set_cons_succ]
  rw [ih]
  simp [yem, zby]
theorem zwi : ∀ n : Nat, yms n [i64 0, i64 0] = yem (List.replicate n (0, 0))
 | 0 => rfl
 | n + 1 => by simp [yms, zwi n, List.replicate_succ, yem, zby]
def ybk (p : ProgD) (g : GraphD) : List (List (Int × Int)) := g.ports.map fun ls => p.vars.map fun y => yax y g ls.length
def tF (p : ProgD) (g : GraphD) : List (Nat × Option LObj) := [(3, some (.cells [yaq g.ids, ybd g.ports])), (2, some (.cells [zdc p.name, .sl 6 (p.vars.map ydu), .sl 3 (p.rules.map yfb)]))]
def tF8 (p : ProgD) (g : GraphD) (y : VarD) : List (Nat × Option LObj) := (8, some (.cells (ydu y))) :: tF p g
theorem zrd {P : Program} {N : Nat} {c : Code} {Q : Exit → SS → Prop} {t t' : List (Nat × AV)} {h h' : List (Nat × Option LObj)} (k : A P N c Q (S t' h')) (h1 : zdd t t') (h2 : ∀ id o, yad h' id = some o → yad h id = some o) : A P N c Q (S t h) := ytu k ⟨yby h1, h2⟩
theorem A_midM {P : Program} {N : Nat} {x : Code} {Q : Exit → SS → Prop} {s : SS} (t0 : List (Nat × AV)) (h0 : List (Nat × Option LObj)) (k1 : A P N x (Mid t0 h0) s) (k2 : ∀ s', Sub (S t0 h0) s' → Q .normal s') : A P N x Q s :=
 k1.mono fun e s ⟨he, hs⟩ => by subst he; exact k2 s hs
theorem zgv (p : ProgD) (g : GraphD) (hf : Fair p g) (h0 : yhv p g = 0) : Con Tryz.prog 75 [ypd p, yin g] (zen (ybk p g)) := by
 have hgl := hf.glen
 have hvl := hf.vlen
 obtain ⟨hc0, hg, hfit⟩ := yft.1 h0
 have hvf := ybp hg
 have htl : (ybk p g).length = g.ids.length := by simp [ybk]; omega
 refine yan Tryz.func75 rfl rfl Tryz.ntmps75 Tryz.results75 rfl rfl ?_
 (repeat (first | refine zy ?_ | refine yao tok rfl rfl rfl rfl (by constructor <;> omega) rfl rfl rfl rfl rfl ?_))
 refine zbp 12 (List.replicate g.ids.length yos) rfl (ztp _ _) ?_
 refine yjr (α := Nat) (fun k => [(15, i64 k), (14, i64 g.ids.length), (5, .ls 12 1 g.ids.length), (2, .lp 2 0), (3, .lp 3 0)]) (fun k => tF p g ++ yek 12 2 ((ybk p g).take k |>.map yem) (List.replicate (g.ids.length - k) yos)) (fun k => g.ids.length - k) (fun k => k ≤ g.ids.length) 0 (by omega) (by exact zs) (ybq (by simp only [List.take_zero, List.map_nil, yek, yfz, yqg, List.nil_append, Nat.sub_zero]; exact zh)) ?_
 intro k hk
 (try refine zy ?_)
 refine yag rfl (fun h => ?_) (fun h => ?_)
 ·simp at h
  obtain ⟨ls, hls⟩ := ycz (show k < g.ports.length by omega)
  have hll := hgl.2.2 ls (List.mem_of_getElem? hls)
  have htk : (((ybk p g).take k).map yem).length = k := by simp; omega
  (repeat (first | refine zy ?_ | refine L_makeI tok (fam 12 k) rfl rfl rfl rfl (by constructor <;> omega) (zfb (f := tF p g) rfl rfl rfl htk.symm (zib yos rfl _)) rfl rfl rfl ?_))
  refine yav tok rfl rfl (by rw [yaw (yed (by omega))]; exact yba rfl) rfl (by omega) (by omega) rfl rfl ?_
  refine yvd tok rfl rfl rfl rfl rfl (by rw [yaw (yed (by omega))]; exact yba rfl) (by rw [List.length_append, yev, htk, List.length_replicate]; simp; omega) rfl rfl ?_
  refine zsi (h' := tF p g ++ yek 12 2 (((ybk p g).take k).map yem ++ [yem (List.replicate p.vars.length (0, 0))]) (List.replicate (g.ids.length - (k + 1)) yos)) ?_ ?_
  ·have hrep : yms p.vars.length (yln [Value.int .i64 0, Value.int .i64 0]) = yem (List.replicate p.vars.length (0, 0)) := zwi _
   have hex : List.replicate (g.ids.length - k) yos = yos :: List.replicate (g.ids.length - (k + 1)) yos := by rw [← List.replicate_succ]; congr 1; omega
   rw [show ((k : Int).toNat * 1) = k by simp]
   exact zop (M := 12) (sz := 2) (f := tF p g) (a := yos) rfl rfl rfl htk.symm (by rw [hrep, ywt]; simp) hex (by rw [hrep])
  (try refine zy ?_)
  refine yjr (α := Nat) (fun j => [(28, i64 j), (27, i64 p.vars.length), (26, .sl 6 (p.vars.map ydu)), (6, i64 k), (15, i64 k), (14, i64 g.ids.length), (5, .ls 12 1 g.ids.length), (2, .lp 2 0), (3, .lp 3 0)]) (fun j => tF p g ++ yek 12 2 (((ybk p g).take k).map yem ++ [yem ((p.vars.map fun y => yax y g ls.length).take j ++ List.replicate (p.vars.length - j) (0, 0))]) (List.replicate (g.ids.length - (k + 1)) yos)) (fun j => p.vars.length - j) (fun j => j ≤ p.vars.length) 0 (by omega) (by exact zs) (hsE (by simp)) ?_
  intro j hj
  (try refine zy ?_)
  refine yag rfl (fun h2 => ?_) (fun h2 => ?_)
  ·simp at h2
   obtain ⟨y, hy⟩ := ycz (show j < p.vars.length by omega)
   (repeat (first | refine zw ?_ | refine znc tok rfl rfl rfl (zrn (f := tF p g) rfl rfl rfl (zkm _ _ rfl _)) rfl rfl rfl ?_))
   -- ROUND
   have hyn : ylq y = true := (ydh hc0).2.2.2 y (List.mem_of_getElem? hy)
   obtain ⟨hlow8, houter⟩ : zdm (tF8 p g y) = true ∧ ((tF8 p g y).all fun x => !Nat.beq x.1 12) = true := ⟨rfl, rfl⟩
   obtain ⟨flat, hflat⟩ : ∃ flat, yem ((p.vars.map fun y => yax y g ls.length).take j ++ List.replicate (p.vars.length - j) (0, 0)) = flat := ⟨_, rfl⟩
   have hpart : (((ybk p g).take k).map yem ++ [yem ((p.vars.map fun y => yax y g ls.length).take j ++ List.replicate (p.vars.length - j) (0, 0))])[k]? = some flat := by
    rw [List.getElem?_append_right (by omega), htk, Nat.sub_self, ← hflat]; rfl
   have hpl : flat.length = 2 * p.vars.length := by rw [← hflat, ywt]; simp; omega
   have hfin : ∀ (a b : Nat), a = j * 2 → b = j * 2 + 1 → yad ((fam 12 k, some (.vec ((flat.set a (i64 (yax y g ls.length).1)).set b (i64 (yax y g ls.length).2)))) :: (fam 12 k, some (.vec (flat.set a (i64 (yax y g ls.length).1)))) :: (tF8 p g y ++ yek 12 2 (((ybk p g).take k).map yem ++ [yem ((p.vars.map fun y => yax y g ls.length).take j ++ List.replicate (p.vars.length - j) (0, 0))]) (List.replicate (g.ids.length - (k + 1)) yos))) = yad (tF8 p g y ++ yek 12 2 (((ybk p g).take k).map yem ++ [yem ((p.vars.map fun y => yax y g ls.length).take (j + 1) ++ List.replicate (p.vars.length - (j + 1)) (0, 0))]) (List.replicate (g.ids.length - (k + 1)) yos)) := by
    rintro _ _ rfl rfl
    have e : (flat.set (j * 2) (i64 (yax y g ls.length).1)).set (j * 2 + 1) (i64 (yax y g ls.length).2) = yem ((p.vars.map fun y => yax y g ls.length).take (j + 1) ++ List.replicate (p.vars.length - (j + 1)) (0, 0)) := by
     rw [← hflat, zev (by simp; omega), set_fill (by simp) (by rw [List.getElem?_map, hy]; rfl)]
    rw [e, yhw]
    refine (mat_upd hlow8 (by omega) hpart (by rw [hpl, ywt]; simp; omega)).trans ?_
    rw [set_last htk]
   have hcO : ycw (yad (tF8 p g y ++ yek 12 2 (((ybk p g).take k).map yem ++ [yem ((p.vars.map fun y => yax y g ls.length).take j ++ List.replicate (p.vars.length - j) (0, 0))]) (List.replicate (g.ids.length - (k + 1)) yos)) 12) = some (yfz 12 2 0 (((ybk p g).take k).map yem ++ [yem ((p.vars.map fun y => yax y g ls.length).take j ++ List.replicate (p.vars.length - j) (0, 0))]) ++ (List.replicate (g.ids.length - (k + 1)) yos)) := by rw [yba houter]; exact yqd _
   have hcell : (yfz 12 2 0 (((ybk p g).take k).map yem ++ [yem ((p.vars.map fun y => yax y g ls.length).take j ++ List.replicate (p.vars.length - j) (0, 0))]) ++ (List.replicate (g.ids.length - (k + 1)) yos))[(k : Int).toNat * 1]? = some (.ls (fam 12 k) 2 p.vars.length) := by
    rw [show ((k : Int).toNat * 1) = k by simp, List.getElem?_append_left (by rw [yev]; simp; omega), yfl, hpart]
    simp only [Option.map_some, hpl, Nat.zero_add]
    congr 2
    omega
   have hpne : flat ≠ [] := by intro h0; rw [h0] at hpl; simp at hpl; omega
   refine zrd (t' := [(7, i64 j), (8, .lp 8 0), (6, i64 k), (5, .ls 12 1 g.ids.length), (28, i64 j), (27, i64 p.vars.length), (26, .sl 6 (p.vars.map ydu)), (15, i64 k), (14, i64 g.ids.length), (2, .lp 2 0), (3, .lp 3 0)]) (h' := tF8 p g y ++ yek 12 2 (((ybk p g).take k).map yem ++ [yem ((p.vars.map fun y => yax y g ls.length).take j ++ List.replicate (p.vars.length - j) (0, 0))]) (List.replicate (g.ids.length - (k + 1)) yos)) ?_ (by exact zs) (hsE yhw)
   refine A_midM [(7, i64 j), (8, .lp 8 0), (6, i64 k), (5, .ls 12 1 g.ids.length), (28, i64 j), (27, i64 p.vars.length), (26, .sl 6 (p.vars.map ydu)), (15, i64 k), (14, i64 g.ids.length), (2, .lp 2 0), (3, .lp 3 0)] (tF8 p g y ++ yek 12 2 (((ybk p g).take k).map yem ++ [yem ((p.vars.map fun y => yax y g ls.length).take (j + 1) ++ List.replicate (p.vars.length - (j + 1)) (0, 0))]) (List.replicate (g.ids.length - (k + 1)) yos)) ?_ fun s2 hs2 => ytu ?_ hs2
   focus
    refine yeb (lf := lf0) zcu rfl ?_
    refine yqb [0, 1, 2, 3, 4, 5, 6, 7, 8, 10, 11, 12, 13, 14, 15, 17, 18] 6 (yaa rfl (yaa rfl (yaa rfl (yaa rfl (yaa rfl (yaa rfl (yaa rfl (yaa rfl (yaa rfl (yaa rfl (yaa rfl (yaa rfl (yaa rfl (yaa rfl (yaa rfl (yaa rfl (yaa rfl yak))))))))))))))))) rfl (by kernel_rfl) ?_
    (repeat (first | refine zo ?_ | refine yav tok rfl rfl (by first | exact yah | exact yap hlow8 (by omega) hpart | exact yba houter) rfl (by omega) (by omega) rfl rfl ?_ | refine ycn (r := .ls (fam 12 k) 2 p.vars.length) tok rfl rfl rfl hcO hcell rfl rfl ?_ | refine yac rfl rfl (ybj y g k ls hyn hg (by omega) (by simpa using hls) (by omega)) rfl rfl ?_ | refine ybe tok rfl rfl (by first | (rw [yah]; rfl) | (rw [yap hlow8 (by omega) hpart]; rfl)) (by first | exact hpne | (intro h0; exact hpne (by simpa using h0))) rfl (by decide) (by decide) rfl rfl ?_ | refine ybz tok rfl rfl rfl rfl rfl (by first | exact yah | exact yap hlow8 (by omega) hpart) (by first | omega | (rw [List.length_set]; omega)) rfl rfl rfl ?_))
    refine ybc [9, 16, 19] 5 rfl (by kernel_rfl) (by simp) ⟨⟨_, rfl, ?_⟩, ⟨_, rfl, ?_⟩, ⟨_, rfl, ?_⟩, trivial⟩
    ·(repeat (first | refine zo ?_ | refine yav tok rfl rfl (by first | exact yah | exact yap hlow8 (by omega) hpart | exact yba houter) rfl (by omega) (by omega) rfl rfl ?_ | refine ycn (r := .ls (fam 12 k) 2 p.vars.length) tok rfl rfl rfl hcO hcell rfl rfl ?_ | refine yac rfl rfl (ybj y g k ls hyn hg (by omega) (by simpa using hls) (by omega)) rfl rfl ?_ | refine ybe tok rfl rfl (by first | (rw [yah]; rfl) | (rw [yap hlow8 (by omega) hpart]; rfl)) (by first | exact hpne | (intro h0; exact hpne (by simpa using h0))) rfl (by decide) (by decide) rfl rfl ?_ | refine ybz tok rfl rfl rfl rfl rfl (by first | exact yah | exact yap hlow8 (by omega) hpart) (by first | omega | (rw [List.length_set]; omega)) rfl rfl rfl ?_))
     refine ybc [16, 19, 20] 4 rfl (by kernel_rfl) (by simp) ⟨⟨_, rfl, ?_⟩, ⟨_, rfl, ?_⟩, ⟨_, rfl, ?_⟩, trivial⟩
     ·(repeat (first | refine zo ?_ | refine yav tok rfl rfl (by first | exact yah | exact yap hlow8 (by omega) hpart | exact yba houter) rfl (by omega) (by omega) rfl rfl ?_ | refine ycn (r := .ls (fam 12 k) 2 p.vars.length) tok rfl rfl rfl hcO hcell rfl rfl ?_ | refine yac rfl rfl (ybj y g k ls hyn hg (by omega) (by simpa using hls) (by omega)) rfl rfl ?_ | refine ybe tok rfl rfl (by first | (rw [yah]; rfl) | (rw [yap hlow8 (by omega) hpart]; rfl)) (by first | exact hpne | (intro h0; exact hpne (by simpa using h0))) rfl (by decide) (by decide) rfl rfl ?_ | refine ybz tok rfl rfl rfl rfl rfl (by first | exact yah | exact yap hlow8 (by omega) hpart) (by first | omega | (rw [List.length_set]; omega)) rfl rfl rfl ?_))
      refine ybc [19, 20] 3 rfl (by kernel_rfl) (by simp) ⟨⟨_, rfl, ?_⟩, ⟨_, rfl, ?_⟩, trivial⟩
      ·(repeat (first | refine zo ?_ | refine yav tok rfl rfl (by first | exact yah | exact yap hlow8 (by omega) hpart | exact yba houter) rfl (by omega) (by omega) rfl rfl ?_ | refine ycn (r := .ls (fam 12 k) 2 p.vars.length) tok rfl rfl rfl hcO hcell rfl rfl ?_ | refine yac rfl rfl (ybj y g k ls hyn hg (by omega) (by simpa using hls) (by omega)) rfl rfl ?_ | refine ybe tok rfl rfl (by first | (rw [yah]; rfl) | (rw [yap hlow8 (by omega) hpart]; rfl)) (by first | exact hpne | (intro h0; exact hpne (by simpa using h0))) rfl (by decide) (by decide) rfl rfl ?_ | refine ybz tok rfl rfl rfl rfl rfl (by first | exact yah | exact yap hlow8 (by omega) hpart) (by first | omega | (rw [List.length_set]; omega)) rfl rfl rfl ?_))
       refine yar [20, 21, 22] (yaa rfl (yaa rfl (yaa rfl yak))) rfl (by kernel_rfl) ?_
       (repeat (first | refine zo ?_ | refine yav tok rfl rfl (by first | exact yah | exact yap hlow8 (by omega) hpart | exact yba houter) rfl (by omega) (by omega) rfl rfl ?_ | refine ycn (r := .ls (fam 12 k) 2 p.vars.length) tok rfl rfl rfl hcO hcell rfl rfl ?_ | refine yac rfl rfl (ybj y g k ls hyn hg (by omega) (by simpa using hls) (by omega)) rfl rfl ?_ | refine ybe tok rfl rfl (by first | (rw [yah]; rfl) | (rw [yap hlow8 (by omega) hpart]; rfl)) (by first | exact hpne | (intro h0; exact hpne (by simpa using h0))) rfl (by decide) (by decide) rfl rfl ?_ | refine ybz tok rfl rfl rfl rfl rfl (by first | exact yah | exact yap hlow8 (by omega) hpart) (by first | omega | (rw [List.length_set]; omega)) rfl rfl rfl ?_))
       exact ⟨rfl, yby (by exact zs), hsE (hfin _ _ (by simp) (by simp))⟩
      ·(repeat (first | refine zo ?_ | refine yav tok rfl rfl (by first | exact yah | exact yap hlow8 (by omega) hpart | exact yba houter) rfl (by omega) (by omega) rfl rfl ?_ | refine ycn (r := .ls (fam 12 k) 2 p.vars.length) tok rfl rfl rfl hcO hcell rfl rfl ?_ | refine yac rfl rfl (ybj y g k ls hyn hg (by omega) (by simpa using hls) (by omega)) rfl rfl ?_ | refine ybe tok rfl rfl (by first | (rw [yah]; rfl) | (rw [yap hlow8 (by omega) hpart]; rfl)) (by first | exact hpne | (intro h0; exact hpne (by simpa using h0))) rfl (by decide) (by decide) rfl rfl ?_ | refine ybz tok rfl rfl rfl rfl rfl (by first | exact yah | exact yap hlow8 (by omega) hpart) (by first | omega | (rw [List.length_set]; omega)) rfl rfl rfl ?_))
       refine yar [19, 21, 22] (yaa rfl (yaa rfl (yaa rfl yak))) rfl (by kernel_rfl) ?_
       (repeat (first | refine zo ?_ | refine yav tok rfl rfl (by first | exact yah | exact yap hlow8 (by omega) hpart | exact yba houter) rfl (by omega) (by omega) rfl rfl ?_ | refine ycn (r := .ls (fam 12 k) 2 p.vars.length) tok rfl rfl rfl hcO hcell rfl rfl ?_ | refine yac rfl rfl (ybj y g k ls hyn hg (by omega) (by simpa using hls) (by omega)) rfl rfl ?_ | refine ybe tok rfl rfl (by first | (rw [yah]; rfl) | (rw [yap hlow8 (by omega) hpart]; rfl)) (by first | exact hpne | (intro h0; exact hpne (by simpa using h0))) rfl (by decide) (by decide) rfl rfl ?_ | refine ybz tok rfl rfl rfl rfl rfl (by first | exact yah | exact yap hlow8 (by omega) hpart) (by first | omega | (rw [List.length_set]; omega)) rfl rfl rfl ?_))
       exact ⟨rfl, yby (by exact zs), hsE (hfin _ _ (by simp) (by simp))⟩
     ·(repeat (first | refine zo ?_ | refine yav tok rfl rfl (by first | exact yah | exact yap hlow8 (by omega) hpart | exact yba houter) rfl (by omega) (by omega) rfl rfl ?_ | refine ycn (r := .ls (fam 12 k) 2 p.vars.length) tok rfl rfl rfl hcO hcell rfl rfl ?_ | refine yac rfl rfl (ybj y g k ls hyn hg (by omega) (by simpa using hls) (by omega)) rfl rfl ?_ | refine ybe tok rfl rfl (by first | (rw [yah]; rfl) | (rw [yap hlow8 (by omega) hpart]; rfl)) (by first | exact hpne | (intro h0; exact hpne (by simpa using h0))) rfl (by decide) (by decide) rfl rfl ?_ | refine ybz tok rfl rfl rfl rfl rfl (by first | exact yah | exact yap hlow8 (by omega) hpart) (by first | omega | (rw [List.length_set]; omega)) rfl rfl rfl ?_))
      refine yar [16, 20, 21, 22] (yaa rfl (yaa rfl (yaa rfl (yaa rfl yak)))) rfl (by kernel_rfl) ?_
      (repeat (first | refine zo ?_ | refine yav tok rfl rfl (by first | exact yah | exact yap hlow8 (by omega) hpart | exact yba houter) rfl (by omega) (by omega) rfl rfl ?_ | refine ycn (r := .ls (fam 12 k) 2 p.vars.length) tok rfl rfl rfl hcO hcell rfl rfl ?_ | refine yac rfl rfl (ybj y g k ls hyn hg (by omega) (by simpa using hls) (by omega)) rfl rfl ?_ | refine ybe tok rfl rfl (by first | (rw [yah]; rfl) | (rw [yap hlow8 (by omega) hpart]; rfl)) (by first | exact hpne | (intro h0; exact hpne (by simpa using h0))) rfl (by decide) (by decide) rfl rfl ?_ | refine ybz tok rfl rfl rfl rfl rfl (by first | exact yah | exact yap hlow8 (by omega) hpart) (by first | omega | (rw [List.length_set]; omega)) rfl rfl rfl ?_))
      exact ⟨rfl, yby (by exact zs), hsE (hfin _ _ (by simp) (by simp))⟩
     ·(repeat (first | refine zo ?_ | refine yav tok rfl rfl (by first | exact yah | exact yap hlow8 (by omega) hpart | exact yba houter) rfl (by omega) (by omega) rfl rfl ?_ | refine ycn (r := .ls (fam 12 k) 2 p.vars.length) tok rfl rfl rfl hcO hcell rfl rfl ?_ | refine yac rfl rfl (ybj y g k ls hyn hg (by omega) (by simpa using hls) (by omega)) rfl rfl ?_ | refine ybe tok rfl rfl (by first | (rw [yah]; rfl) | (rw [yap hlow8 (by omega) hpart]; rfl)) (by first | exact hpne | (intro h0; exact hpne (by simpa using h0))) rfl (by decide) (by decide) rfl rfl ?_ | refine ybz tok rfl rfl rfl rfl rfl (by first | exact yah | exact yap hlow8 (by omega) hpart) (by first | omega | (rw [List.length_set]; omega)) rfl rfl rfl ?_))
      refine ybc [16, 19] 3 rfl (by kernel_rfl) (by simp) ⟨⟨_, rfl, ?_⟩, ⟨_, rfl, ?_⟩, trivial⟩
      ·(repeat (first | refine zo ?_ | refine yav tok rfl rfl (by first | exact yah | exact yap hlow8 (by omega) hpart | exact yba houter) rfl (by omega) (by omega) rfl rfl ?_ | refine ycn (r := .ls (fam 12 k) 2 p.vars.length) tok rfl rfl rfl hcO hcell rfl rfl ?_ | refine yac rfl rfl (ybj y g k ls hyn hg (by omega) (by simpa using hls) (by omega)) rfl rfl ?_ | refine ybe tok rfl rfl (by first | (rw [yah]; rfl) | (rw [yap hlow8 (by omega) hpart]; rfl)) (by first | exact hpne | (intro h0; exact hpne (by simpa using h0))) rfl (by decide) (by decide) rfl rfl ?_ | refine ybz tok rfl rfl rfl rfl rfl (by first | exact yah | exact yap hlow8 (by omega) hpart) (by first | omega | (rw [List.length_set]; omega)) rfl rfl rfl ?_))
       refine yar [19, 21, 22] (yaa rfl (yaa rfl (yaa rfl yak))) rfl (by kernel_rfl) ?_
       (repeat (first | refine zo ?_ | refine yav tok rfl rfl (by first | exact yah | exact yap hlow8 (by omega) hpart | exact yba houter) rfl (by omega) (by omega) rfl rfl ?_ | refine ycn (r := .ls (fam 12 k) 2 p.vars.length) tok rfl rfl rfl hcO hcell rfl rfl ?_ | refine yac rfl rfl (ybj y g k ls hyn hg (by omega) (by simpa using hls) (by omega)) rfl rfl ?_ | refine ybe tok rfl rfl (by first | (rw [yah]; rfl) | (rw [yap hlow8 (by omega) hpart]; rfl)) (by first | exact hpne | (intro h0; exact hpne (by simpa using h0))) rfl (by decide) (by decide) rfl rfl ?_ | refine ybz tok rfl rfl rfl rfl rfl (by first | exact yah | exact yap hlow8 (by omega) hpart) (by first | omega | (rw [List.length_set]; omega)) rfl rfl rfl ?_))
       exact ⟨rfl, yby (by exact zs), hsE (hfin _ _ (by simp) (by simp))⟩
      ·(repeat (first | refine zo ?_ | refine yav tok rfl rfl (by first | exact yah | exact yap hlow8 (by omega) hpart | exact yba houter) rfl (by omega) (by omega) rfl rfl ?_ | refine ycn (r := .ls (fam 12 k) 2 p.vars.length) tok rfl rfl rfl hcO hcell rfl rfl ?_ | refine yac rfl rfl (ybj y g k ls hyn hg (by omega) (by simpa using hls) (by omega)) rfl rfl ?_ | refine ybe tok rfl rfl (by first | (rw [yah]; rfl) | (rw [yap hlow8 (by omega) hpart]; rfl)) (by first | exact hpne | (intro h0; exact hpne (by simpa using h0))) rfl (by decide) (by decide) rfl rfl ?_ | refine ybz tok rfl rfl rfl rfl rfl (by first | exact yah | exact yap hlow8 (by omega) hpart) (by first | omega | (rw [List.length_set]; omega)) rfl rfl rfl ?_))
       refine yar [16, 21, 22] (yaa rfl (yaa rfl (yaa rfl yak))) rfl (by kernel_rfl) ?_
       (repeat (first | refine zo ?_ | refine yav tok rfl rfl (by first | exact yah | exact yap hlow8 (by omega) hpart | exact yba houter) rfl (by omega) (by omega) rfl rfl ?_ | refine ycn (r := .ls (fam 12 k) 2 p.vars.length) tok rfl rfl rfl hcO hcell rfl rfl ?_ | refine yac rfl rfl (ybj y g k ls hyn hg (by omega) (by simpa using hls) (by omega)) rfl rfl ?_ | refine ybe tok rfl rfl (by first | (rw [yah]; rfl) | (rw [yap hlow8 (by omega) hpart]; rfl)) (by first | exact hpne | (intro h0; exact hpne (by simpa using h0))) rfl (by decide) (by decide) rfl rfl ?_ | refine ybz tok rfl rfl rfl rfl rfl (by first | exact yah | exact yap hlow8 (by omega) hpart) (by first | omega | (rw [List.length_set]; omega)) rfl rfl rfl ?_))
       exact ⟨rfl, yby (by exact zs), hsE (hfin _ _ (by simp) (by simp))⟩
    ·(repeat (first | refine zo ?_ | refine yav tok rfl rfl (by first | exact yah | exact yap hlow8 (by omega) hpart | exact yba houter) rfl (by omega) (by omega) rfl rfl ?_ | refine ycn (r := .ls (fam 12 k) 2 p.vars.length) tok rfl rfl rfl hcO hcell rfl rfl ?_ | refine yac rfl rfl (ybj y g k ls hyn hg (by omega) (by simpa using hls) (by omega)) rfl rfl ?_ | refine ybe tok rfl rfl (by first | (rw [yah]; rfl) | (rw [yap hlow8 (by omega) hpart]; rfl)) (by first | exact hpne | (intro h0; exact hpne (by simpa using h0))) rfl (by decide) (by decide) rfl rfl ?_ | refine ybz tok rfl rfl rfl rfl rfl (by first | exact yah | exact yap hlow8 (by omega) hpart) (by first | omega | (rw [List.length_set]; omega)) rfl rfl rfl ?_))
     refine ybc [9, 19] 4 rfl (by kernel_rfl) (by simp) ⟨⟨_, rfl, ?_⟩, ⟨_, rfl, ?_⟩, trivial⟩
     ·(repeat (first | refine zo ?_ | refine yav tok rfl rfl (by first | exact yah | exact yap hlow8 (by omega) hpart | exact yba houter) rfl (by omega) (by omega) rfl rfl ?_ | refine ycn (r := .ls (fam 12 k) 2 p.vars.length) tok rfl rfl rfl hcO hcell rfl rfl ?_ | refine yac rfl rfl (ybj y g k ls hyn hg (by omega) (by simpa using hls) (by omega)) rfl rfl ?_ | refine ybe tok rfl rfl (by first | (rw [yah]; rfl) | (rw [yap hlow8 (by omega) hpart]; rfl)) (by first | exact hpne | (intro h0; exact hpne (by simpa using h0))) rfl (by decide) (by decide) rfl rfl ?_ | refine ybz tok rfl rfl rfl rfl rfl (by first | exact yah | exact yap hlow8 (by omega) hpart) (by first | omega | (rw [List.length_set]; omega)) rfl rfl rfl ?_))
      refine ybc [19, 20] 3 rfl (by kernel_rfl) (by simp) ⟨⟨_, rfl, ?_⟩, ⟨_, rfl, ?_⟩, trivial⟩
      ·(repeat (first | refine zo ?_ | refine yav tok rfl rfl (by first | exact yah | exact yap hlow8 (by omega) hpart | exact yba houter) rfl (by omega) (by omega) rfl rfl ?_ | refine ycn (r := .ls (fam 12 k) 2 p.vars.length) tok rfl rfl rfl hcO hcell rfl rfl ?_ | refine yac rfl rfl (ybj y g k ls hyn hg (by omega) (by simpa using hls) (by omega)) rfl rfl ?_ | refine ybe tok rfl rfl (by first | (rw [yah]; rfl) | (rw [yap hlow8 (by omega) hpart]; rfl)) (by first | exact hpne | (intro h0; exact hpne (by simpa using h0))) rfl (by decide) (by decide) rfl rfl ?_ | refine ybz tok rfl rfl rfl rfl rfl (by first | exact yah | exact yap hlow8 (by omega) hpart) (by first | omega | (rw [List.length_set]; omega)) rfl rfl rfl ?_))
       refine yar [20, 21, 22] (yaa rfl (yaa rfl (yaa rfl yak))) rfl (by kernel_rfl) ?_
       (repeat (first | refine zo ?_ | refine yav tok rfl rfl (by first | exact yah | exact yap hlow8 (by omega) hpart | exact yba houter) rfl (by omega) (by omega) rfl rfl ?_ | refine ycn (r := .ls (fam 12 k) 2 p.vars.length) tok rfl rfl rfl hcO hcell rfl rfl ?_ | refine yac rfl rfl (ybj y g k ls hyn hg (by omega) (by simpa using hls) (by omega)) rfl rfl ?_ | refine ybe tok rfl rfl (by first | (rw [yah]; rfl) | (rw [yap hlow8 (by omega) hpart]; rfl)) (by first | exact hpne | (intro h0; exact hpne (by simpa using h0))) rfl (by decide) (by decide) rfl rfl ?_ | refine ybz tok rfl rfl rfl rfl rfl (by first | exact yah | exact yap hlow8 (by omega) hpart) (by first | omega | (rw [List.length_set]; omega)) rfl rfl rfl ?_))
       exact ⟨rfl, yby (by exact zs), hsE (hfin _ _ (by simp) (by simp))⟩
      ·(repeat (first | refine zo ?_ | refine yav tok rfl rfl (by first | exact yah | exact yap hlow8 (by omega) hpart | exact yba houter) rfl (by omega) (by omega) rfl rfl ?_ | refine ycn (r := .ls (fam 12 k) 2 p.vars.length) tok rfl rfl rfl hcO hcell rfl rfl ?_ | refine yac rfl rfl (ybj y g k ls hyn hg (by omega) (by simpa using hls) (by omega)) rfl rfl ?_ | refine ybe tok rfl rfl (by first | (rw [yah]; rfl) | (rw [yap hlow8 (by omega) hpart]; rfl)) (by first | exact hpne | (intro h0; exact hpne (by simpa using h0))) rfl (by decide) (by decide) rfl rfl ?_ | refine ybz tok rfl rfl rfl rfl rfl (by first | exact yah | exact yap hlow8 (by omega) hpart) (by first | omega | (rw [List.length_set]; omega)) rfl rfl rfl ?_))
       refine yar [19, 21, 22] (yaa rfl (yaa rfl (yaa rfl yak))) rfl (by kernel_rfl) ?_
       (repeat (first | refine zo ?_ | refine yav tok rfl rfl (by first | exact yah | exact yap hlow8 (by omega) hpart | exact yba houter) rfl (by omega) (by omega) rfl rfl ?_ | refine ycn (r := .ls (fam 12 k) 2 p.vars.length) tok rfl rfl rfl hcO hcell rfl rfl ?_ | refine yac rfl rfl (ybj y g k ls hyn hg (by omega) (by simpa using hls) (by omega)) rfl rfl ?_ | refine ybe tok rfl rfl (by first | (rw [yah]; rfl) | (rw [yap hlow8 (by omega) hpart]; rfl)) (by first | exact hpne | (intro h0; exact hpne (by simpa using h0))) rfl (by decide) (by decide) rfl rfl ?_ | refine ybz tok rfl rfl rfl rfl rfl (by first | exact yah | exact yap hlow8 (by omega) hpart) (by first | omega | (rw [List.length_set]; omega)) rfl rfl rfl ?_))
       exact ⟨rfl, yby (by exact zs), hsE (hfin _ _ (by simp) (by simp))⟩
     ·(repeat (first | refine zo ?_ | refine yav tok rfl rfl (by first | exact yah | exact yap hlow8 (by omega) hpart | exact yba houter) rfl (by omega) (by omega) rfl rfl ?_ | refine ycn (r := .ls (fam 12 k) 2 p.vars.length) tok rfl rfl rfl hcO hcell rfl rfl ?_ | refine yac rfl rfl (ybj y g k ls hyn hg (by omega) (by simpa using hls) (by omega)) rfl rfl ?_ | refine ybe tok rfl rfl (by first | (rw [yah]; rfl) | (rw [yap hlow8 (by omega) hpart]; rfl)) (by first | exact hpne | (intro h0; exact hpne (by simpa using h0))) rfl (by decide) (by decide) rfl rfl ?_ | refine ybz tok rfl rfl rfl rfl rfl (by first | exact yah | exact yap hlow8 (by omega) hpart) (by first | omega | (rw [List.length_set]; omega)) rfl rfl rfl ?_))
      refine yar [9, 20, 21, 22] (yaa rfl (yaa rfl (yaa rfl (yaa rfl yak)))) rfl (by kernel_rfl) ?_
      (repeat (first | refine zo ?_ | refine yav tok rfl rfl (by first | exact yah | exact yap hlow8 (by omega) hpart | exact yba houter) rfl (by omega) (by omega) rfl rfl ?_ | refine ycn (r := .ls (fam 12 k) 2 p.vars.length) tok rfl rfl rfl hcO hcell rfl rfl ?_ | refine yac rfl rfl (ybj y g k ls hyn hg (by omega) (by simpa using hls) (by omega)) rfl rfl ?_ | refine ybe tok rfl rfl (by first | (rw [yah]; rfl) | (rw [yap hlow8 (by omega) hpart]; rfl)) (by first | exact hpne | (intro h0; exact hpne (by simpa using h0))) rfl (by decide) (by decide) rfl rfl ?_ | refine ybz tok rfl rfl rfl rfl rfl (by first | exact yah | exact yap hlow8 (by omega) hpart) (by first | omega | (rw [List.length_set]; omega)) rfl rfl rfl ?_))
      exact ⟨rfl, yby (by exact zs), hsE (hfin _ _ (by simp) (by simp))⟩
    ·(repeat (first | refine zo ?_ | refine yav tok rfl rfl (by first | exact yah | exact yap hlow8 (by omega) hpart | exact yba houter) rfl (by omega) (by omega) rfl rfl ?_ | refine ycn (r := .ls (fam 12 k) 2 p.vars.length) tok rfl rfl rfl hcO hcell rfl rfl ?_ | refine yac rfl rfl (ybj y g k ls hyn hg (by omega) (by simpa using hls) (by omega)) rfl rfl ?_ | refine ybe tok rfl rfl (by first | (rw [yah]; rfl) | (rw [yap hlow8 (by omega) hpart]; rfl)) (by first | exact hpne | (intro h0; exact hpne (by simpa using h0))) rfl (by decide) (by decide) rfl rfl ?_ | refine ybz tok rfl rfl rfl rfl rfl (by first | exact yah | exact yap hlow8 (by omega) hpart) (by first | omega | (rw [List.length_set]; omega)) rfl rfl rfl ?_))
     refine yar [9, 16, 20, 21, 22] (yaa rfl (yaa rfl (yaa rfl (yaa rfl (yaa rfl yak))))) rfl (by kernel_rfl) ?_
     (repeat (first | refine zo ?_ | refine yav tok rfl rfl (by first | exact yah | exact yap hlow8 (by omega) hpart | exact yba houter) rfl (by omega) (by omega) rfl rfl ?_ | refine ycn (r := .ls (fam 12 k) 2 p.vars.length) tok rfl rfl rfl hcO hcell rfl rfl ?_ | refine yac rfl rfl (ybj y g k ls hyn hg (by omega) (by simpa using hls) (by omega)) rfl rfl ?_ | refine ybe tok rfl rfl (by first | (rw [yah]; rfl) | (rw [yap hlow8 (by omega) hpart]; rfl)) (by first | exact hpne | (intro h0; exact hpne (by simpa using h0))) rfl (by decide) (by decide) rfl rfl ?_ | refine ybz tok rfl rfl rfl rfl rfl (by first | exact yah | exact yap hlow8 (by omega) hpart) (by first | omega | (rw [List.length_set]; omega)) rfl rfl rfl ?_))
     exact ⟨rfl, yby (by exact zs), hsE (hfin _ _ (by simp) (by simp))⟩
   (try refine zy ?_)
   exact zgl (j + 1) (by omega) (by omega) (by exact zs) (hsM (f := tF8 p g y) (f' := tF p g) (yal rfl (yal rfl yay)) hlow8 rfl houter)
  ·simp at h2
   obtain rfl : j = p.vars.length := by omega
   (try refine zy ?_)
   refine zgl (k + 1) (by omega) (by omega) (by exact zs) (hsE ?_)
   have hrow : (ybk p g)[k]? = some (p.vars.map fun y => yax y g ls.length) := by simp [ybk, hls]
   rw [ycd hrow]
   simp [List.take_of_length_le]
 ·simp at h
  obtain rfl : k = g.ids.length := by omega
  (try refine zy ?_)
  refine yaf ?_; refine ⟨_, rfl, ?_⟩
  have e1 : (ybk p g).take g.ids.length = ybk p g := List.take_of_length_le (by omega)
  have e2 : List.replicate (g.ids.length - g.ids.length) yos = [] := by simp
  rw [e1, e2]
  have := Frz.mat (f := tF p g) (M := 12) (sz := 2) (rows := (ybk p g).map yem) (els := (ybk p g).map fun r => r.map zby) rfl rfl rfl (by omega) (by intro r hr e he; obtain ⟨r0, _, rfl⟩ := List.mem_map.1 hr; obtain ⟨q, _, rfl⟩ := List.mem_map.1 he; rfl) (n := g.ids.length) (by simp [htl]) (by simp [yem, Function.comp_def])
  simpa [S, zen, List.map_map, Function.comp_def] using this
end
section
open Go.RowKit
def zmr (r : Int × Int) (v : Int) : Bool := decide (r.1 ≤ v) && decide (v ≤ r.2)
def yfo (rs : List (Int × Int)) (vs : List Int) : Bool := vs.length == rs.length && (rs.zip vs).all fun x => zmr x.1 x.2
theorem ytt {α β : Type} {l : List α} {m : List β} {k : Nat} {a : α} {b : β} (h1 : l[k]? = some a) (h2 : m[k]? = some b) : (l.zip m)[k]? = some (a, b) := by
 rw [List.getElem?_zip_eq_some]; exact ⟨h1, h2⟩
theorem ynf {α : Type} {l : List α} {f : α → Bool} {k : Nat} {x : α} (hx : l[k]? = some x) (h : (l.take k).all f = true) (hf : f x = true) : (l.take (k + 1)).all f = true := by
 rw [ycd hx, List.all_append, h]; simp [hf]
theorem ylt {α : Type} {l : List α} {f : α → Bool} {k : Nat} {x : α} (hx : l[k]? = some x) (hf : f x = false) : l.all f = false := by
 rw [List.all_eq_false]; exact ⟨x, List.mem_of_getElem? hx, by simp [hf]⟩
theorem state_con (rs : List (Int × Int)) (vs : List Int) (hv : vs.length ≤ 1000000) : Con Tryz.prog 191 [.sl 2 (rs.map zby), yaq vs] (ycp (yfo rs vs)) := by
 refine yan Tryz.func191 rfl rfl Tryz.ntmps191 Tryz.results191 rfl rfl ?_
 (try refine zy ?_)
 refine yag rfl (fun h => ?_) (fun h => ?_)
 ·(try refine zy ?_)
  refine yaf ?_; refine ⟨_, rfl, ?_⟩
  refine yai ?_
  have : vs.length ≠ rs.length := by intro e; simp [e] at h
  simp [yfo, this]
 have hl : vs.length = rs.length := by simp at h; omega
 (try refine zy ?_)
 refine ycy (α := Nat) (fun k => [(14, i64 k), (13, i64 vs.length), (12, yaq vs), (0, .sl 2 (rs.map zby))]) (fun k => []) (fun k => vs.length - k) (fun k => k ≤ vs.length ∧ ((rs.zip vs).take k).all (fun x => zmr x.1 x.2) = true) 0 ⟨by omega, rfl⟩ (by exact zs) (by exact zh) ?_
 intro k ⟨hk, hok⟩
 (try refine zy ?_)
 refine yag rfl (fun h1 => ?_) (fun h1 => ?_)
 ·simp at h1
  obtain ⟨v, hvk⟩ := ycz (show k < vs.length by omega)
  obtain ⟨r, hrk⟩ := ycz (show k < rs.length by omega)
  have hz := ytt hrk hvk
  (try refine zy ?_)
  refine yau 26 rfl (fun h2 => ?_) (fun h2 => ?_)
  ·(try refine zy ?_)
   refine yaf ?_; refine ⟨_, rfl, ?_⟩
   refine yai ?_
   simp at h2
   rw [yfo, ylt hz (by simp [zmr]; omega), Bool.and_false]
  ·(try refine zy ?_)
   refine yag rfl (fun h3 => ?_) (fun h3 => ?_)
   ·(try refine zy ?_)
    refine yaf ?_; refine ⟨_, rfl, ?_⟩
    refine yai ?_
    simp at h2 h3
    rw [yfo, ylt hz (by simp [zmr]; omega), Bool.and_false]
   ·(try refine zy ?_)
    simp at h2 h3
    exact rnd (k + 1) ⟨by omega, ynf hz hok (by simp [zmr]; omega)⟩ (by omega) (by exact zs) (by exact zh)
 ·simp at h1
  obtain rfl : k = vs.length := by omega
  (try refine zy ?_)
  refine yaf ?_; refine ⟨_, rfl, ?_⟩
  refine yai ?_
  rw [List.take_of_length_le (by simp; omega)] at hok
  simp [yfo, hl, hok]
def yih (tbl : List (List (Int × Int))) (c : List (List Int)) : Bool := c.length == tbl.length && (tbl.zip c).all fun x => yfo x.1 x.2
def yvz (c : List (List Int)) : Prop := c.length ≤ 1000000 ∧ ∀ r ∈ c, r.length ≤ 1000000
theorem within_con (tbl : List (List (Int × Int))) (c : List (List Int)) (hc : yvz c) (ht : tbl.length ≤ 1000000) : Con Tryz.prog 131 [zen tbl, yfh c] (ycp (yih tbl c)) := by
 have hcl := hc.1
 refine yan Tryz.func131 rfl rfl Tryz.ntmps131 Tryz.results131 rfl rfl ?_
 (try refine zy ?_)
 refine yag rfl (fun h => ?_) (fun h => ?_)
 ·(try refine zy ?_)
  refine yaf ?_; refine ⟨_, rfl, ?_⟩
  refine yai ?_
  have : c.length ≠ tbl.length := by intro e; simp [e] at h
  simp [yih, this]
 have hl : c.length = tbl.length := by simp at h; omega
 (try refine zy ?_)
 refine ycy (α := Nat) (fun k => [(14, i64 k), (13, i64 tbl.length), (12, zen tbl), (1, yfh c)]) (fun k => []) (fun k => tbl.length - k) (fun k => k ≤ tbl.length ∧ ((tbl.zip c).take k).all (fun x => yfo x.1 x.2) = true) 0 ⟨by omega, rfl⟩ (by exact zs) (by exact zh) ?_
 intro k ⟨hk, hok⟩
 (try refine zy ?_)
 refine yag rfl (fun h1 => ?_) (fun h1 => ?_)
 ·simp at h1
  obtain ⟨r, hrk⟩ := ycz (show k < tbl.length by omega)
  obtain ⟨v, hvk⟩ := ycz (show k < c.length by omega)
  have hz := ytt hrk hvk
  (repeat (first | refine zy ?_ | refine yac rfl rfl (state_con r v (hc.2 v (List.mem_of_getElem? hvk))) rfl rfl ?_))
  refine yag rfl (fun h2 => ?_) (fun h2 => ?_)
  ·(try refine zy ?_)
   refine yaf ?_; refine ⟨_, rfl, ?_⟩
   refine yai ?_
   simp at h2
   rw [yih, ylt hz h2, Bool.and_false]
  ·(try refine zy ?_)
   simp at h2
   exact rnd (k + 1) ⟨by omega, ynf hz hok h2⟩ (by omega) (by exact zs) (by exact zh)
 ·simp at h1
  obtain rfl : k = tbl.length := by omega
  (try refine zy ?_)
  refine yaf ?_; refine ⟨_, rfl, ?_⟩
  refine yai ?_
  rw [List.take_of_length_le (by simp; omega)] at hok
  simp [yih, hl, hok]
theorem cfg_of_fair {p : ProgD} {g : GraphD} (hf : Fair p g) : (ybk p g).length ≤ 1000000 ∧ ∀ r ∈ ybk p g, r.length ≤ 1000 := by
 have h1 := hf.glen.2.1
 have h2 := hf.vlen
 refine ⟨by simp [ybk]; omega, fun r hr => ?_⟩
 obtain ⟨ls, _, rfl⟩ := List.mem_map.1 hr
 simpa using h2
def yhu (p : ProgD) (g : GraphD) (c : List (List Int)) : Int := if yhv p g = 0 then if yih (ybk p g) c = true then 0 else 10 else yhv p g
theorem ytd (p : ProgD) (g : GraphD) (c : List (List Int)) (hf : Fair p g) (hc : yvz c) : Con Tryz.prog 74 [ypd p, yin g, yfh c] (i64 (yhu p g c)) := by
 refine yan Tryz.func74 rfl rfl Tryz.ntmps74 Tryz.results74 rfl rfl ?_
 (repeat (first | refine zy ?_ | refine yac rfl rfl (fits_con p g hf) rfl rfl ?_))
 refine yag rfl (fun h => ?_) (fun h => ?_)
 ·(try refine zy ?_)
  refine yaf ?_; refine ⟨_, rfl, ?_⟩
  have : yhv p g ≠ 0 := by simpa using h
  exact yae (by simp [yhu, this])
 have h0 : yhv p g = 0 := by simpa using h
 (repeat (first | refine zy ?_ | refine yac rfl rfl (zgv p g hf h0) rfl rfl ?_ | refine yac rfl rfl (within_con (ybk p g) c hc (cfg_of_fair hf).1) rfl rfl ?_))
 refine yag rfl (fun h1 => ?_) (fun h1 => ?_)
 ·simp at h1
  (try refine zy ?_)
  refine yaf ?_; refine ⟨_, rfl, ?_⟩
  exact yae (by simp [yhu, h0, h1])
 ·simp at h1
  (try refine zy ?_)
  refine yaf ?_; refine ⟨_, rfl, ?_⟩
  exact yae (by simp [yhu, h0, h1])
theorem mvalid_con (p : ProgD) (g : GraphD) (c : List (List Int)) (hf : Fair p g) (hc : yvz c) : Con Tryz.prog 113 [ypd p, yin g, yfh c] (ycp (yhu p g c == 0)) := by
 refine yan Tryz.func113 rfl rfl Tryz.ntmps113 Tryz.results113 rfl rfl ?_
 (repeat (first | refine zy ?_ | refine yac rfl rfl (ytd p g c hf hc) rfl rfl ?_))
 refine yaf ?_; refine ⟨_, rfl, ?_⟩
 exact yai (by rfl)
end
section
open Go.RowKit
def RgOk (q : Int × Int) : Prop := -1 ≤ q.1 ∧ q.1 ≤ q.2 ∧ q.2 ≤ 1000000
def TabIn (tbl : List (List (Int × Int))) : Prop := tbl.length ≤ 1000 ∧ ∀ r ∈ tbl, r.length ≤ 1000 ∧ ∀ q ∈ r, RgOk q
theorem table_in {p : ProgD} {g : GraphD} (hf : Fair p g) (h0 : yhv p g = 0) : TabIn (ybk p g) := by
 obtain ⟨hc0, hg, hfit⟩ := yft.1 h0
 have hvf := ybp hg
 refine ⟨by simp [ybk]; omega, fun r hr => ?_⟩
 obtain ⟨ls, hls, rfl⟩ := List.mem_map.1 hr
 have hll := hf.glen.2.2 ls hls
 refine ⟨by simpa using hf.vlen, fun q hq => ?_⟩
 obtain ⟨y, hy, rfl⟩ := List.mem_map.1 hq
 have hn := (ydh hc0).2.2.2 y hy
 have hb := ywg (deg := ls.length) hn hg (by omega)
 have hl := fit_bd (deg := ls.length) (hfit y hy) hn (by omega)
 refine ⟨hb.1, ?_, by omega⟩
 by_cases hk : y.kind = 3
 ·rw [yua hk]; simp only; omega
 ·rw [if_neg hk] at hl; omega
end
section
open Go.RowKit
theorem zod {f : List (Nat × Option LObj)} {M : Nat} {rows : List (List AV)} {c : List (List Int)} {n : Nat} (hf : zdm f = true) (hM : Nat.blt M 1000000 = true) (hk : (f.all fun x => !Nat.beq x.1 M) = true) (hn : n = c.length) (hr : rows = zdn c) : Frz (yad (f ++ yek M 1 rows [])) (.ls M 1 n) (yfh c) := by
 subst hn hr
 have := Frz.mat (f := f) (M := M) (sz := 1) (rows := zdn c) (els := c.map fun r => r.map fun x => [i64 x]) hf hM hk (by omega) (by intro r hr e he; obtain ⟨r0, _, rfl⟩ := List.mem_map.1 hr; obtain ⟨q, _, rfl⟩ := List.mem_map.1 he; rfl) (n := c.length) (by simp) (by simp only [zdn, List.map_map]; congr 1; funext r; exact (ygi r).symm)
 simpa [yfh, yaq, List.map_map, Function.comp_def] using this
end
section
open Go.RowKit
theorem yse {r : List (Int × Int)} {s : List Int} (h : yfo r s = true) : s.length = r.length ∧ ∀ (x : Nat) (b : Int × Int), r[x]? = some b → ∃ z, s[x]? = some z ∧ b.1 ≤ z ∧ z ≤ b.2 := by
 simp only [yfo, Bool.and_eq_true, beq_iff_eq] at h
 refine ⟨h.1, fun x b hb => ?_⟩
 have hx := (List.getElem?_eq_some_iff.1 hb).1
 obtain ⟨z, hz⟩ := ycz (show x < s.length by omega)
 have := List.all_eq_true.1 h.2 _ (List.mem_of_getElem? (ytt hb hz))
 simp only [zmr, Bool.and_eq_true, decide_eq_true_eq] at this
 exact ⟨z, hz, this⟩
theorem ywi {tbl : List (List (Int × Int))} {c : List (List Int)} (h : yih tbl c = true) : c.length = tbl.length ∧ ∀ (v : Nat) (r : List (Int × Int)), tbl[v]? = some r → ∃ s, c[v]? = some s ∧ yfo r s = true := by
 simp only [yih, Bool.and_eq_true, beq_iff_eq] at h
 refine ⟨h.1, fun v r hr => ?_⟩
 have hx := (List.getElem?_eq_some_iff.1 hr).1
 obtain ⟨s, hs⟩ := ycz (show v < c.length by omega)
 exact ⟨s, hs, List.all_eq_true.1 h.2 _ (List.mem_of_getElem? (ytt hr hs))⟩
theorem yoi {p : ProgD} {g : GraphD} {c : List (List Int)} : yhu p g c = 0 ↔ yhv p g = 0 ∧ yih (ybk p g) c = true := by
 unfold yhu
 by_cases h : yhv p g = 0
 ·by_cases h2 : yih (ybk p g) c = true
  ·simp [h, h2]
  ·simp [h, h2]
 ·simp [h]
def yog (p : ProgD) (tbl : List (List (Int × Int))) (v x : Nat) (z : Int) : Int := yks ((p.vars.getD x default).kind) ((tbl.getD v []).getD x (0, 0)).1 ((tbl.getD v []).getD x (0, 0)).2 z
theorem yyl {p : ProgD} {g : GraphD} {v : Nat} {r : List (Int × Int)} (h : (ybk p g)[v]? = some r) : r.length = p.vars.length := by
 simp only [ybk, List.getElem?_map] at h
 cases hg : g.ports[v]? with
 | none => rw [hg] at h; cases h
 | some ls => rw [hg] at h; cases h; simp
end
section
open Go.RowKit
def ycm (B : BitVec 32) : AV := .v (.int .u32 (B.toNat : Int))
theorem yli (B : BitVec 32) : BitVec.ofInt 32 (B.toNat : Int) = B := by
 apply BitVec.eq_of_toNat_eq
 simp
theorem zdj (B : BitVec 32) : IntKind.u32.wrap (B.toNat : Int) = (B.toNat : Int) := by
 have := B.isLt
 simp only [IntKind.wrap, IntKind.signed, IntKind.bits, Bool.false_and, if_false, Bool.false_eq_true]
 omega
variable {P : Program} {T : Nat → Option Ty} {N : Nat} {ops : Array Oper} {lf : Oper → Bool} {Q : SS → Prop} {t : List (Nat × AV)} {h : List (Nat × Option LObj)} {rest : List Oper} {d : Nat} {op : Op} {ty : TypeId} {pos : String} {af : Array Edge} {gd : Option (Nat × Bool)} {r : AV}
theorem orU_val (B C : BitVec 32) : Op.intBits .or .u32 (B.toNat : Int) (C.toNat : Int) = pure (.int .u32 ((B ||| C).toNat : Int)) := by
 have e1 : BitVec.ofInt IntKind.u32.bits (B.toNat : Int) = B := yli B
 have e2 : BitVec.ofInt IntKind.u32.bits (C.toNat : Int) = C := yli C
 unfold Op.intBits
 simp only [e1, e2]
 exact congrArg (fun z => pure (Value.int .u32 z)) (zdj (B ||| C))
theorem andNotU_val (B C : BitVec 32) : Op.intBits .andNot .u32 (B.toNat : Int) (C.toNat : Int) = pure (.int .u32 ((B &&& ~~~C).toNat : Int)) := by
 have e1 : BitVec.ofInt IntKind.u32.bits (B.toNat : Int) = B := yli B
 have e2 : BitVec.ofInt IntKind.u32.bits (C.toNat : Int) = C := yli C
 unfold Op.intBits
 simp only [e1, e2]
 exact congrArg (fun z => pure (Value.int .u32 z)) (zdj (B &&& ~~~C))
theorem yield_orU {ρ : Operand → Option AV} {hp : Nat → Option LObj} {x y : Operand} {B C : BitVec 32} {tx ty' : TypeId} (hx : ρ x = some (ycm B)) (hy : ρ y = some (ycm C)) : ybw P hp ρ (.binOp .or tx x y ty') ty (ycm (B ||| C)) :=
 yck (fun _ _ => by simp) (by simp [yfx, Op.operands, hx, hy, toV, ycm]) fun w => by
  have e := orU_val B C
  simp [execOp, ydv hx, ydv hy, eqGuard, binOp, e]
theorem yield_andNotU {ρ : Operand → Option AV} {hp : Nat → Option LObj} {x y : Operand} {B C : BitVec 32} {tx ty' : TypeId} (hx : ρ x = some (ycm B)) (hy : ρ y = some (ycm C)) : ybw P hp ρ (.binOp .andNot tx x y ty') ty (ycm (B &&& ~~~C)) :=
 yck (fun _ _ => by simp) (by simp [yfx, Op.operands, hx, hy, toV, ycm]) fun w => by
  have e := andNotU_val B C
  simp [execOp, ydv hx, ydv hy, eqGuard, binOp, e]
theorem shl_val (n : Nat) : IntKind.u32.wrap (1 * 2 ^ (min n 32)) = ((1#32 <<< n).toNat : Int) := by
 rw [BitVec.toNat_shiftLeft]
 simp only [IntKind.wrap, IntKind.signed, IntKind.bits, Bool.false_and, if_false, Bool.false_eq_true, Int.one_mul, Nat.shiftLeft_eq, BitVec.toNat_ofNat]
 rw [show (1 % 2 ^ 32 : Nat) = 1 by decide, Nat.one_mul]
 rcases Nat.lt_or_ge n 32 with h | h
 ·rw [Nat.min_eq_left (by omega)]
  norm_cast
 ·rw [Nat.min_eq_right h]
  have e : (2 ^ n) % 2 ^ 32 = 0 := Nat.mod_eq_zero_of_dvd (Nat.pow_dvd_pow 2 h)
  rw [e]; decide
theorem yield_shlU {ρ : Operand → Option AV} {hp : Nat → Option LObj} {x y : Operand} {i : Int} {k' : IntKind} {tx ty' : TypeId} (hx : ρ x = some (.v (.int .u32 1))) (hy : ρ y = some (.v (.int k' i))) (hb : 0 ≤ i) : ybw P hp ρ (.binOp .shl tx x y ty') ty (ycm (1#32 <<< i.toNat)) := by
 have := yield_shl (P := P) (hp := hp) (ty := ty) (tx := tx) (ty' := ty') hx hy hb
 rwa [show IntKind.u32.bits = 32 from rfl, shl_val] at this
theorem yic {x y : Operand} {B C : BitVec 32} {tx ty' : TypeId} (hx : evF (look t) x = some (ycm B)) (hy : evF (look t) y = some (ycm C))
  (hw : yaj ops (look t) ⟨some d, .binOp .or tx x y ty', ty, pos, af, gd⟩ = some true) (hd : Nat.blt d N = true) (k : Lex P N ops lf Q rest (S ((d, ycm (B ||| C)) :: t) h)) : Lex P N ops lf Q (⟨some d, .binOp .or tx x y ty', ty, pos, af, gd⟩ :: rest) (S t h) :=
 ycf (yield_orU hx hy) hw hd k
theorem ybo {x y : Operand} {B C : BitVec 32} {tx ty' : TypeId} (hx : evF (look t) x = some (ycm B)) (hy : evF (look t) y = some (ycm C))
  (hw : yaj ops (look t) ⟨some d, .binOp .andNot tx x y ty', ty, pos, af, gd⟩ = some true) (hd : Nat.blt d N = true) (k : Lex P N ops lf Q rest (S ((d, ycm (B &&& ~~~C)) :: t) h)) : Lex P N ops lf Q (⟨some d, .binOp .andNot tx x y ty', ty, pos, af, gd⟩ :: rest) (S t h) :=
 ycf (yield_andNotU hx hy) hw hd k
theorem yel {x y : Operand} {i : Int} {k' : IntKind} {tx ty' : TypeId} (hx : evF (look t) x = some (.v (.int .u32 1))) (hy : evF (look t) y = some (.v (.int k' i))) (hb : 0 ≤ i)
  (hw : yaj ops (look t) ⟨some d, .binOp .shl tx x y ty', ty, pos, af, gd⟩ = some true) (hd : Nat.blt d N = true) (k : Lex P N ops lf Q rest (S ((d, ycm (1#32 <<< i.toNat)) :: t) h)) : Lex P N ops lf Q (⟨some d, .binOp .shl tx x y ty', ty, pos, af, gd⟩ :: rest) (S t h) :=
 ycf (yield_shlU hx hy hb) hw hd k
theorem yid (hT : TOK P T) {z : Int} (hr : yqu T t h op ty = some (.v (.int .u64 (IntKind.u64.wrap z)))) (h0 : 0 ≤ z ∧ z ≤ 18446744073709551615)
  (hw : yaj ops (look t) ⟨some d, op, ty, pos, af, gd⟩ = some true) (hd : Nat.blt d N = true) (k : Lex P N ops lf Q rest (S ((d, .v (.int .u64 z)) :: t) h)) : Lex P N ops lf Q (⟨some d, op, ty, pos, af, gd⟩ :: rest) (S t h) := by
 have e : IntKind.u64.wrap z = z := by
  simp only [IntKind.wrap, IntKind.signed, IntKind.bits, Bool.false_and, if_false, Bool.false_eq_true]
  omega
 rw [e] at hr
 exact zdq hT hr hw hd k
def yph (f : Nat → Bool) : Nat → BitVec 32
 | 0 => 0#32
 | n + 1 => if f n = true then yph f n ||| (1#32 <<< n) else yph f n
theorem yox (f : Nat → Bool) : ∀ n i : Nat, i < 32 → (yph f n).getLsbD i = (decide (i < n) && f i)
 | 0, i, h => by simp [yph]
 | n + 1, i, h => by
  have ih := yox f n i h
  unfold yph
  have hb : (1#32 <<< n).getLsbD i = decide (i = n) := by
   rw [BitVec.getLsbD_shiftLeft]
   by_cases e : i = n
   ·subst e; simp [h]
   ·simp [e, BitVec.getLsbD_one]; omega
  split
  ·rename_i hf
   rw [BitVec.getLsbD_or, ih, hb]
   by_cases e : i = n
   ·subst e; simp [hf]
   ·have : (i < n + 1) ↔ i < n := by omega
    simp [e, this]
  ·rename_i hf
   rw [ih]
   by_cases e : i = n
   ·subst e; simp [hf]
   ·have : (i < n + 1) ↔ i < n := by omega
    simp [this]
end
section
def zvo (l : List Tm) : Ex := (yex l).getD (.lf (3, 0))
def Scn.of (s : Scn) (l : List Tm) : Int := s.val (-1) (zvo l)
def zil (p : ProgD) (s : Scn) : Int := yux (p.rules.map fun r => s.of r.guard) 0
def zpt (p : ProgD) (tbl : List (List (Int × Int))) (s : Scn) (st : List Int) (x : SetD) : List Int := st.set x.var.toNat (yog p tbl s.v x.var.toNat (s.of x.val))
def ztn (p : ProgD) (tbl : List (List (Int × Int))) (s : Scn) (r : Nat) : List Int := (match p.rules[r]? with | some r => r.sets | none => []).foldl (zpt p tbl s) (s.c.getD s.v [])
def zdl (p : ProgD) (g : GraphD) (c : List (List Int)) (v : Nat) : Bool := decide (0 ≤ zil p ⟨g, c, v⟩)
def ykl (p : ProgD) (g : GraphD) (c : List (List Int)) : BitVec 32 := yph (zdl p g c) c.length
def zqz (p : ProgD) (g : GraphD) (c : List (List Int)) (v : Nat) : List Int := ztn p (ybk p g) ⟨g, c, v⟩ (zil p ⟨g, c, v⟩).toNat
def yzd (p : ProgD) (g : GraphD) (c : List (List Int)) (set : BitVec 32) : List (List Int) := c.mapIdx fun v r => if set.getLsbD v then zqz p g c v else r
theorem ziq {p : ProgD} {g : GraphD} {c : List (List Int)} {set : BitVec 32} {v : Nat} {r : List Int} (h : c[v]? = some r) : (yzd p g c set)[v]? = some (if set.getLsbD v then zqz p g c v else r) := by
 simp [yzd, List.getElem?_mapIdx, h]
theorem yko {p : ProgD} {g : GraphD} {c : List (List Int)} {set : BitVec 32} : (yzd p g c set).length = c.length := by simp [yzd]
structure Alike (g : GraphD) (c d : List (List Int)) (v : Nat) : Prop where
 own : c[v]? = d[v]?
 near : ∀ ls, g.ports[v]? = some ls → ∀ l ∈ ls, c[l.1.toNat]? = d[l.1.toNat]?
theorem zfd {g : GraphD} {c d : List (List Int)} {v u : Nat} (h : c[u]? = d[u]?) (x : Int) : (⟨g, c, v⟩ : Scn).get u x = (⟨g, d, v⟩ : Scn).get u x := by
 simp only [Scn.get, List.getD_eq_getElem?_getD, h]
theorem leaf_alike {g : GraphD} {c d : List (List Int)} {v : Nat} (h : Alike g c d v) {port : Int} {t : Tm} (hp : zcv t.1 = true → 0 ≤ port ∧ port < (⟨g, c, v⟩ : Scn).deg) : (⟨g, c, v⟩ : Scn).leaf port t = (⟨g, d, v⟩ : Scn).leaf port t := by
 have e1 : (⟨g, c, v⟩ : Scn).get v t.2 = (⟨g, d, v⟩ : Scn).get v t.2 := zfd h.own _
 have e2 : (⟨g, d, v⟩ : Scn).link port = (⟨g, c, v⟩ : Scn).link port := rfl
 by_cases hn : t.1 = 12
 ·have hq := hp (by rw [hn]; rfl)
  have e3 : (⟨g, c, v⟩ : Scn).get ((⟨g, c, v⟩ : Scn).link port).1.toNat t.2 = (⟨g, d, v⟩ : Scn).get ((⟨g, c, v⟩ : Scn).link port).1.toNat t.2 := by
   refine zfd ?_ _
   have hd : (⟨g, c, v⟩ : Scn).deg = (g.ports.getD v []).length := rfl
   rw [hd] at hq
   cases hv : g.ports[v]? with
   | none => simp [List.getD_eq_getElem?_getD, hv] at hq; omega
   | some ls =>
    simp only [List.getD_eq_getElem?_getD, hv, Option.getD_some] at hq
    obtain ⟨l, hl⟩ : ∃ l, ls[port.toNat]? = some l := ⟨_, List.getElem?_eq_getElem (show port.toNat < ls.length by omega)⟩
    have e : (⟨g, c, v⟩ : Scn).link port = l := by simp [Scn.link, List.getD_eq_getElem?_getD, hv, hl]
    rw [e]
    exact h.near ls hv l (List.mem_of_getElem? hl)
  unfold Scn.leaf
  rw [hn, e2]
  simp [e3]
 ·unfold Scn.leaf
  rw [if_neg hn, if_neg hn, e2]
  simp only [e1]
  rfl
theorem yib {g : GraphD} {c d : List (List Int)} {v : Nat} (h : Alike g c d v) {kinds : List Int} (hk : yfc kinds = true) : ∀ (E : Ex), E.ok → ∀ {b : Bool} {port : Int}, ty kinds b E ≠ 0 → (b = true → 0 ≤ port ∧ port < (⟨g, c, v⟩ : Scn).deg) → (⟨g, c, v⟩ : Scn).val port E = (⟨g, d, v⟩ : Scn).val port E
 | .lf t, ho, b, port, ht, hb => by
  simp only [Scn.val]
  refine leaf_alike h fun hn => hb ?_
  cases b with
  | true => rfl
  | false => exact absurd (by simp only [ty]; simp [hn]) ht
 | .un t a, ho, b, port, ht, hb => by
  have hty := ygz kinds hk b (.un t a) a ho (by simp [yoo]) ht
  have hoa := (ylc (.un t a) a ho (by simp [yoo])).1
  simp only [Scn.val]
  by_cases ha : yhs t.1 = true
  ·rw [if_pos ha, if_pos ha]
   have hd : (⟨g, d, v⟩ : Scn).deg = (⟨g, c, v⟩ : Scn).deg := rfl
   rw [hd]
   congr 1
   refine List.map_congr_left fun k hkr => ?_
   have := List.mem_range.1 hkr
   exact yib h hk a hoa hty fun _ => ⟨by omega, by omega⟩
  ·rw [if_neg ha, if_neg ha]
   rw [yib h hk a hoa (b := b) (by simpa [hd, ha] using hty) hb]
 | .bi t a e, ho, b, port, ht, hb => by
  have hna : yhs t.1 = false := yml (by have := ho.1; simp only [Ex.ok] at ho; omega)
  have h1 := ygz kinds hk b (.bi t a e) a ho (by simp [yoo]) ht
  have h2 := ygz kinds hk b (.bi t a e) e ho (by simp [yoo]) ht
  simp only [hd, hna, Bool.or_false] at h1 h2
  simp only [Scn.val]
  rw [yib h hk a (ylc (.bi t a e) a ho (by simp [yoo])).1 h1 hb, yib h hk e (ylc (.bi t a e) e ho (by simp [yoo])).1 h2 hb]
 | .tr t a e f, ho, b, port, ht, hb => by
  have hna : yhs t.1 = false := yml (by simp only [Ex.ok] at ho; omega)
  have h1 := ygz kinds hk b (.tr t a e f) a ho (by simp [yoo]) ht
  have h2 := ygz kinds hk b (.tr t a e f) e ho (by simp [yoo]) ht
  have h3 := ygz kinds hk b (.tr t a e f) f ho (by simp [yoo]) ht
  simp only [hd, hna, Bool.or_false] at h1 h2 h3
  simp only [Scn.val]
  rw [yib h hk a (ylc (.tr t a e f) a ho (by simp [yoo])).1 h1 hb, yib h hk e (ylc (.tr t a e f) e ho (by simp [yoo])).1 h2 hb, yib h hk f (ylc (.tr t a e f) f ho (by simp [yoo])).1 h3 hb]
theorem zsr {l : List Tm} {kinds : List Int} {k : Int} (hk0 : k ≠ 0) (h : (ofF l kinds false).1 = k) : ∃ E, yex l = some E ∧ zvo l = E ∧ E.ok ∧ E.fl = l ∧ yfc kinds = true ∧ ydc l kinds.length = true ∧ ty kinds false E ≠ 0 := by
 by_cases h6 : 6 < kinds.length
 ·rw [zku _ _ _ h6] at h; exact absurd h.symm hk0
 cases hk : yfc kinds
 ·rw [zgc _ _ _ hk] at h; exact absurd h.symm hk0
 cases hv : ydc l kinds.length
 ·rw [yxr _ _ _ hv] at h; exact absurd h.symm hk0
 obtain ⟨E, hp, ho, hfl, _⟩ := ymh hv
 rw [zoz l kinds false E h6 hk hv hp] at h
 by_cases ht : ty kinds false E = 0
 ·rw [if_pos ht] at h; exact absurd h.symm hk0
 ·exact ⟨E, hp, by simp [zvo, hp], ho, hfl, rfl, rfl, ht⟩
theorem zkv {g : GraphD} {c d : List (List Int)} {v : Nat} (h : Alike g c d v) {kinds : List Int} {l : List Tm} {k : Int} (hk0 : k ≠ 0) (ht : (ofF l kinds false).1 = k) : (⟨g, c, v⟩ : Scn).of l = (⟨g, d, v⟩ : Scn).of l := by
 obtain ⟨E, _, e, ho, _, hk, _, hty⟩ := zsr hk0 ht
 unfold Scn.of
 rw [e]
 exact yib h hk E ho hty (by simp)
end
section
open Go.RowKit
theorem zai {α : Type} {a b : List α} {k : Nat} {x y : α} (h1 : a[k]? = some x) (h2 : b[k]? = some y) (hne : x ≠ y) : a ≠ b := by
 rintro rfl; rw [h1] at h2; cases h2; exact hne rfl
theorem yul {α : Type} {a b : List α} {k : Nat} (hl : a.length = b.length) (hk : k = a.length) (h : a.take k = b.take k) : a = b := by
 subst hk
 rwa [List.take_length, hl, List.take_length] at h
theorem sameInts_con (a b : List Int) (ha : a.length ≤ 1000000) : Con Tryz.prog 17 [yaq a, yaq b] (ycp (a == b)) := by
 refine yan Tryz.func17 rfl rfl Tryz.ntmps17 Tryz.results17 rfl rfl ?_
 (try refine zy ?_)
 refine yag rfl (fun h => ?_) (fun h => ?_)
 ·(try refine zy ?_)
  refine yaf ?_; refine ⟨_, rfl, ?_⟩
  have : a ≠ b := by rintro rfl; simp at h
  exact yai (by simp [this])
 have hl : a.length = b.length := by simp at h; omega
 (try refine zy ?_)
 refine ycy (α := Nat) (fun k => [(5, i64 k), (0, yaq a), (1, yaq b)]) (fun _ => []) (fun k => a.length - k) (fun k => k ≤ a.length ∧ a.take k = b.take k) 0 ⟨by omega, rfl⟩ (by exact zs) (by exact zh) ?_
 rintro k ⟨hk, hok⟩
 (try refine zy ?_)
 refine yag rfl (fun h1 => ?_) (fun h1 => ?_)
 ·simp at h1
  obtain ⟨x, hx⟩ := ycz (show k < a.length by omega)
  obtain ⟨y, hy⟩ := ycz (show k < b.length by omega)
  (try refine zy ?_)
  refine yag rfl (fun h2 => ?_) (fun h2 => ?_)
  ·(try refine zy ?_)
   refine yaf ?_; refine ⟨_, rfl, ?_⟩
   simp at h2
   exact yai (by simp [zai hx hy h2])
  ·(try refine zy ?_)
   simp at h2
   exact rnd (k + 1) ⟨by omega, by rw [ycd hx, ycd hy, hok, h2]⟩ (by omega) (by exact zs) (by exact zh)
 ·simp at h1
  (try refine zy ?_)
  refine yaf ?_; refine ⟨_, rfl, ?_⟩
  exact yai (by simp [yul hl (show k = a.length by omega) hok])
end
section
open Go.RowKit
theorem zgw {p : ProgD} {g : GraphD} {v x : Nat} {r : List (Int × Int)} {b : Int × Int} (hr : (ybk p g)[v]? = some r) (hb : r[x]? = some b) : ∃ ls y, g.ports[v]? = some ls ∧ p.vars[x]? = some y ∧ b = yax y g ls.length := by
 simp only [ybk, List.getElem?_map] at hr
 cases hg : g.ports[v]? with
 | none => rw [hg] at hr; cases hr
 | some ls =>
  rw [hg] at hr
  cases hr
  simp only [List.getElem?_map] at hb
  cases hy : p.vars[x]? with
  | none => rw [hy] at hb; cases hb
  | some y => rw [hy] at hb; cases hb; exact ⟨ls, y, rfl, rfl, rfl⟩
theorem tends_con (p : ProgD) (g : GraphD) (hf : Fair p g) (h0 : yhv p g = 0) (v x : Nat) (r : List (Int × Int)) (b : Int × Int) (hr : (ybk p g)[v]? = some r) (hb : r[x]? = some b) : Con Tryz.prog 112 [ypd p, yin g, i64 v, i64 x] (zsz b) := by
 obtain ⟨ls, y, h1, h2, rfl⟩ := zgw hr hb
 obtain ⟨hc0, hg, hfit⟩ := yft.1 h0
 have hll := hf.glen.2.2 ls (List.mem_of_getElem? h1)
 exact zjr p g v x ls y ((ydh hc0).2.2.2 y (List.mem_of_getElem? h2)) hg (by omega) (by simpa using h1) (by omega) (by omega) (by simpa using h2)
theorem rcheck_con (p : ProgD) (g : GraphD) (c : List (List Int)) (hf : Fair p g) (hc : yvz c) : Con Tryz.prog 58 [ypd p, yin g, yfh c] (i64 (yhu p g c)) := by
 have hcl := hc.1
 have hgl := hf.glen
 have hvl := hf.vlen
 refine yan Tryz.func58 rfl rfl Tryz.ntmps58 Tryz.results58 rfl rfl ?_
 (repeat (first | refine zy ?_ | refine yac rfl rfl (rfits_con p g hf) rfl rfl ?_))
 refine yag rfl (fun h => ?_) (fun h => ?_)
 ·(try refine zy ?_)
  refine yaf ?_; refine ⟨_, rfl, ?_⟩
  have : yhv p g ≠ 0 := by simpa using h
  exact yae (by simp [yhu, this])
 have h0 : yhv p g = 0 := by simpa using h
 have hbad : yih (ybk p g) c = false → (10 : Int) = yhu p g c := fun e => by rw [yhu, if_pos h0, if_neg (by simp [e])]
 have htl : (ybk p g).length = g.ports.length := by simp [ybk]
 (try refine zy ?_)
 refine yag rfl (fun h1 => ?_) (fun h1 => ?_)
 ·(try refine zy ?_)
  refine yaf ?_; refine ⟨_, rfl, ?_⟩
  have : c.length ≠ (ybk p g).length := by rw [htl]; intro e; simp [e] at h1
  exact yae (hbad (by simp [yih, this]))
 have hl : c.length = (ybk p g).length := by simp at h1; omega
 (try refine zy ?_)
 refine ycy (α := Nat) (fun k => [(8, i64 k), (2, yfh c), (3, .lp 3 0), (4, .lp 4 0)]) (fun k => [(3, some (.cells [zdc p.name, .sl 6 (p.vars.map ydu), .sl 3 (p.rules.map yfb)])), (4, some (.cells [yaq g.ids, ybd g.ports]))]) (fun k => c.length - k) (fun k => k ≤ c.length ∧ (((ybk p g).zip c).take k).all (fun x => yfo x.1 x.2) = true) 0 ⟨by omega, rfl⟩ (by exact zs) (by exact zh) ?_
 intro k ⟨hk, hok⟩
 (try refine zy ?_)
 refine yag rfl (fun h2 => ?_) (fun h2 => ?_)
 ·simp at h2
  obtain ⟨s, hs⟩ := ycz h2
  obtain ⟨r, hr⟩ := ycz (show k < (ybk p g).length by omega)
  have hz := ytt hr hs
  have hrl := yyl hr
  have hsl := hc.2 s (List.mem_of_getElem? hs)
  (try refine zy ?_)
  refine yag rfl (fun h3 => ?_) (fun h3 => ?_)
  ·(try refine zy ?_)
   refine yaf ?_; refine ⟨_, rfl, ?_⟩
   have : s.length ≠ r.length := by rw [hrl]; intro e; simp [e] at h3
   exact yae (hbad (by rw [yih, ylt hz (by simp [yfo, this]), Bool.and_false]))
  have hsr : s.length = r.length := by simp at h3; omega
  (try refine zy ?_)
  refine ycy (α := Nat) (fun j => [(9, i64 j), (8, i64 k), (2, yfh c), (3, .lp 3 0), (4, .lp 4 0)]) (fun j => [(3, some (.cells [zdc p.name, .sl 6 (p.vars.map ydu), .sl 3 (p.rules.map yfb)])), (4, some (.cells [yaq g.ids, ybd g.ports]))]) (fun j => s.length - j) (fun j => j ≤ s.length ∧ ((r.zip s).take j).all (fun x => zmr x.1 x.2) = true) 0 ⟨by omega, rfl⟩ (by exact zs) (by exact zh) ?_
  intro j ⟨hj, hjk⟩
  (try refine zy ?_)
  refine yag rfl (fun h4 => ?_) (fun h4 => ?_)
  ·simp at h4
   obtain ⟨z, hzj⟩ := ycz h4
   obtain ⟨b, hb⟩ := ycz (show j < r.length by omega)
   have hzz := ytt hb hzj
   (repeat (first | refine zy ?_ | refine yac rfl rfl (tends_con p g hf h0 k j r b hr hb) rfl rfl ?_ | refine yac rfl rfl (zag _ _ _) rfl rfl ?_))
   refine yag rfl (fun h5 => ?_) (fun h5 => ?_)
   ·(try refine zy ?_)
    refine yaf ?_; refine ⟨_, rfl, ?_⟩
    have e : zmr b z = false := by simp [inB] at h5; simp [zmr]; omega
    exact yae (hbad (by rw [yih, ylt hz (by rw [yfo, ylt hzz e, Bool.and_false]), Bool.and_false]))
   ·(try refine zy ?_)
    have e : zmr b z = true := by simp [inB] at h5; simp [zmr]; omega
    exact rnd (j + 1) ⟨by omega, ynf hzz hjk e⟩ (by omega) (by exact zs) (by exact zh)
  ·simp at h4
   obtain rfl : j = s.length := by omega
   (try refine zy ?_)
   rw [List.take_of_length_le (by simp; omega)] at hjk
   exact rnd (k + 1) ⟨by omega, ynf hz hok (by simp [yfo, hsr, hjk])⟩ (by omega) (by exact zs) (by exact zh)
 ·simp at h2
  obtain rfl : k = c.length := by omega
  (try refine zy ?_)
  refine yaf ?_; refine ⟨_, rfl, ?_⟩
  rw [List.take_of_length_le (by simp; omega)] at hok
  exact yae (by rw [yhu, if_pos h0, if_pos (by simp [yih, hl, hok])])
theorem ykc (p : ProgD) (g : GraphD) (c : List (List Int)) (hf : Fair p g) (hc : yvz c) : Con Tryz.prog 19 [ypd p, yin g, yfh c] (ycp (yhu p g c == 0)) := by
 refine yan Tryz.func19 rfl rfl Tryz.ntmps19 Tryz.results19 rfl rfl ?_
 (repeat (first | refine zy ?_ | refine yac rfl rfl (rcheck_con p g c hf hc) rfl rfl ?_))
 refine yaf ?_; refine ⟨_, rfl, ?_⟩
 exact yai (by rfl)
end
section
open Go.RowKit
theorem equal_con (a b : List Int) (ha : a.length ≤ 1000000) : Con Tryz.prog 59 [yaq a, yaq b] (ycp (a == b)) := by
 refine yan Tryz.func59 rfl rfl Tryz.ntmps59 Tryz.results59 rfl rfl ?_
 (try refine zy ?_)
 refine yag rfl (fun h => ?_) (fun h => ?_)
 ·(try refine zy ?_)
  refine yaf ?_; refine ⟨_, rfl, ?_⟩
  have : a ≠ b := by rintro rfl; simp at h
  exact yai (by simp [this])
 have hl : a.length = b.length := by simp at h; omega
 (try refine zy ?_)
 refine ycy (α := Nat) (fun k => [(13, i64 k), (12, i64 a.length), (0, yaq a), (1, yaq b)]) (fun _ => []) (fun k => a.length - k) (fun k => k ≤ a.length ∧ a.take k = b.take k) 0 ⟨by omega, rfl⟩ (by exact zs) (by exact zh) ?_
 rintro k ⟨hk, hok⟩
 (try refine zy ?_)
 refine yag rfl (fun h1 => ?_) (fun h1 => ?_)
 ·simp at h1
  obtain ⟨x, hx⟩ := ycz (show k < a.length by omega)
  obtain ⟨y, hy⟩ := ycz (show k < b.length by omega)
  (try refine zy ?_)
  refine yag rfl (fun h2 => ?_) (fun h2 => ?_)
  ·(try refine zy ?_)
   refine yaf ?_; refine ⟨_, rfl, ?_⟩
   simp at h2
   exact yai (by simp [zai hx hy h2])
  ·(try refine zy ?_)
   simp at h2
   exact rnd (k + 1) ⟨by omega, by rw [ycd hx, ycd hy, hok, h2]⟩ (by omega) (by exact zs) (by exact zh)
 ·simp at h1
  (try refine zy ?_)
  refine yaf ?_; refine ⟨_, rfl, ?_⟩
  exact yai (by simp [yul hl (show k = a.length by omega) hok])
def yfa (c d : List (List Int)) (v : Nat) : Bool := !(c[v]? == d[v]?)
def yqf (c d : List (List Int)) : BitVec 32 := yph (yfa c d) 24
theorem yxm (c d : List (List Int)) (hc : yvz c) (hd : yvz d) : Con Tryz.prog 20 [yfh c, yfh d] (ycm (yqf c d)) := by
 have hcl := hc.1
 have hdl := hd.1
 refine yan Tryz.func20 rfl rfl Tryz.ntmps20 Tryz.results20 rfl rfl ?_
 (try refine zy ?_)
 refine ycy (α := Nat) (fun k => [(9, i64 k), (5, ycm (yph (yfa c d) k)), (0, yfh c), (1, yfh d)]) (fun _ => []) (fun k => 24 - k) (fun k => k ≤ 24) 0 (by omega) (by exact zs) (by exact zh) ?_
 intro k hk
 (try refine zy ?_)
 refine yag rfl (fun h1 => ?_) (fun h1 => ?_)
 ·simp at h1
  (try refine zy ?_)
  have hnext : ∀ b, yfa c d k = b → yph (yfa c d) (k + 1) = if b = true then yph (yfa c d) k ||| (1#32 <<< k) else yph (yfa c d) k := fun b hb => by rw [yph, hb]
  refine yau 20 rfl (fun e1 => ?_) (fun e1 => ?_)
  ·simp at e1
   obtain ⟨a, ha⟩ := ycz e1
   refine yau 21 rfl (fun e2 => ?_) (fun e2 => ?_)
   ·simp at e2
    obtain ⟨b, hb⟩ := ycz e2
    (repeat (first | refine yid tok rfl (by constructor <;> omega) rfl rfl ?_ | refine yel rfl rfl (by omega) rfl rfl ?_ | refine yic rfl rfl rfl rfl ?_ | refine ybo rfl rfl rfl rfl ?_ | refine zI ?_ | refine zL ?_ | refine zC ?_ | refine ydw ?_ | refine ydl ?_ | refine zR ?_ | refine zD ?_ | refine zK ?_ | refine zB ?_ | refine zA ?_ | refine zS ?_ | refine zU ?_ | refine zV ?_ | refine zF ?_ | with_reducible refine ybl ?_ | with_reducible refine ycc ?_ | refine ybr ?_ | refine ybx ?_ | refine yco ?_ | refine zT ?_ | refine zE ?_ | refine zX ?_ | refine ymj tok rfl rfl rfl rfl rfl ?_))
    refine yau 25 rfl (fun e3 => ?_) (fun e3 => ?_)
    ·(repeat (first | refine zy ?_ | refine yac rfl rfl (equal_con a b (hc.2 a (List.mem_of_getElem? ha))) rfl rfl ?_))
     refine yag rfl (fun h2 => ?_) (fun h2 => ?_)
     ·(repeat (first | refine yid tok rfl (by constructor <;> omega) rfl rfl ?_ | refine yel rfl rfl (by omega) rfl rfl ?_ | refine yic rfl rfl rfl rfl ?_ | refine ybo rfl rfl rfl rfl ?_ | refine zI ?_ | refine zL ?_ | refine zC ?_ | refine ydw ?_ | refine ydl ?_ | refine zR ?_ | refine zD ?_ | refine zK ?_ | refine zB ?_ | refine zA ?_ | refine zS ?_ | refine zU ?_ | refine zV ?_ | refine zF ?_ | with_reducible refine ybl ?_ | with_reducible refine ycc ?_ | refine ybr ?_ | refine ybx ?_ | refine yco ?_ | refine zT ?_ | refine zE ?_ | refine zX ?_ | refine ymj tok rfl rfl rfl rfl rfl ?_))
      have e := hnext true (by simp [yfa, ha, hb]; simpa using h2)
      rw [if_pos rfl] at e
      refine rnd (k + 1) (by omega) (by omega) ?_ (by exact zh)
      rw [e]
      exact (by exact zs)
     ·(try refine zy ?_)
      have e := hnext false (by simp [yfa, ha, hb]; simpa using h2)
      rw [if_neg (by simp)] at e
      refine rnd (k + 1) (by omega) (by omega) ?_ (by exact zh)
      rw [e]
      exact (by exact zs)
    ·exfalso; simp at e3; omega
   ·simp at e2
    (repeat (first | refine yid tok rfl (by constructor <;> omega) rfl rfl ?_ | refine yel rfl rfl (by omega) rfl rfl ?_ | refine yic rfl rfl rfl rfl ?_ | refine ybo rfl rfl rfl rfl ?_ | refine zI ?_ | refine zL ?_ | refine zC ?_ | refine ydw ?_ | refine ydl ?_ | refine zR ?_ | refine zD ?_ | refine zK ?_ | refine zB ?_ | refine zA ?_ | refine zS ?_ | refine zU ?_ | refine zV ?_ | refine zF ?_ | with_reducible refine ybl ?_ | with_reducible refine ycc ?_ | refine ybr ?_ | refine ybx ?_ | refine yco ?_ | refine zT ?_ | refine zE ?_ | refine zX ?_ | refine ymj tok rfl rfl rfl rfl rfl ?_))
    have e := hnext true (by simp [yfa, ha, List.getElem?_eq_none e2])
    rw [if_pos rfl] at e
    refine rnd (k + 1) (by omega) (by omega) ?_ (by exact zh)
    rw [e]
    exact (by exact zs)
  ·simp at e1
   refine yau 21 rfl (fun e2 => ?_) (fun e2 => ?_)
   ·simp at e2
    obtain ⟨b, hb⟩ := ycz e2
    (repeat (first | refine yid tok rfl (by constructor <;> omega) rfl rfl ?_ | refine yel rfl rfl (by omega) rfl rfl ?_ | refine yic rfl rfl rfl rfl ?_ | refine ybo rfl rfl rfl rfl ?_ | refine zI ?_ | refine zL ?_ | refine zC ?_ | refine ydw ?_ | refine ydl ?_ | refine zR ?_ | refine zD ?_ | refine zK ?_ | refine zB ?_ | refine zA ?_ | refine zS ?_ | refine zU ?_ | refine zV ?_ | refine zF ?_ | with_reducible refine ybl ?_ | with_reducible refine ycc ?_ | refine ybr ?_ | refine ybx ?_ | refine yco ?_ | refine zT ?_ | refine zE ?_ | refine zX ?_ | refine ymj tok rfl rfl rfl rfl rfl ?_))
    have e := hnext true (by simp [yfa, hb, List.getElem?_eq_none e1])
    rw [if_pos rfl] at e
    refine rnd (k + 1) (by omega) (by omega) ?_ (by exact zh)
    rw [e]
    exact (by exact zs)
   ·simp at e2
    (repeat (first | refine yid tok rfl (by constructor <;> omega) rfl rfl ?_ | refine yel rfl rfl (by omega) rfl rfl ?_ | refine yic rfl rfl rfl rfl ?_ | refine ybo rfl rfl rfl rfl ?_ | refine zI ?_ | refine zL ?_ | refine zC ?_ | refine ydw ?_ | refine ydl ?_ | refine zR ?_ | refine zD ?_ | refine zK ?_ | refine zB ?_ | refine zA ?_ | refine zS ?_ | refine zU ?_ | refine zV ?_ | refine zF ?_ | with_reducible refine ybl ?_ | with_reducible refine ycc ?_ | refine ybr ?_ | refine ybx ?_ | refine yco ?_ | refine zT ?_ | refine zE ?_ | refine zX ?_ | refine ymj tok rfl rfl rfl rfl rfl ?_))
    refine yau 25 rfl (fun e3 => ?_) (fun e3 => ?_)
    ·exfalso; simp at e3; omega
    ·(try refine zy ?_)
     have e := hnext false (by simp [yfa, List.getElem?_eq_none e1, List.getElem?_eq_none e2])
     rw [if_neg (by simp)] at e
     refine rnd (k + 1) (by omega) (by omega) ?_ (by exact zh)
     rw [e]
     exact (by exact zs)
 ·simp at h1
  obtain rfl : k = 24 := by omega
  (try refine zy ?_)
  refine yaf ?_; refine ⟨_, rfl, ?_⟩
  exact Frz.pure
end
section
open Go.RowKit
structure GoodP (p : ProgD) : Prop where
 lim : ¬ (p.vars.length = 0 ∨ 6 < p.vars.length ∨ 12 < p.rules.length)
 name : yij p.name = true
 vnames : yfn (p.vars.map (·.name)) = true
 rnames : yfn (p.rules.map (·.name)) = true
 num : p.vars.all ylq = true
 form : p.rules.all (ybs · p.vars.length) = true
 type : p.rules.all (yew · (ybg p)) = true
theorem ysq {p : ProgD} (h : ycx p = 0) : GoodP p := by
 unfold ycx at h
 split at h
 ·omega
 split at h
 ·omega
 split at h
 ·omega
 split at h
 ·omega
 split at h
 ·omega
 rename_i h1 h2 h3 h4 h5
 have h2' : yct p = true := by simpa using h2
 unfold yct at h2'
 simp only [Bool.and_eq_true] at h2'
 exact ⟨h1, h2'.1, h2'.2.1, h2'.2.2, by simpa using h3, by simpa using h4, by simpa using h5⟩
theorem GoodP.check {p : ProgD} (h : GoodP p) : ycx p = 0 := by
 have hn : yct p = true := by unfold yct; rw [h.name, h.vnames, h.rnames]; rfl
 exact zbu h.lim hn h.num h.form h.type
end
section
open Go.RowKit
theorem zci {p : ProgD} (h : ycx p = 0) {r : RuleD} (hr : r ∈ p.rules) : (ofF r.guard (ybg p) false).1 = 2 := by
 have := List.all_eq_true.1 (ysq h).type r hr
 simp only [yew, Bool.and_eq_true, beq_iff_eq] at this
 exact this.1
theorem zrx {p : ProgD} (h : ycx p = 0) {r : RuleD} (hr : r ∈ p.rules) {x : SetD} (hx : x ∈ r.sets) : 0 ≤ x.var ∧ x.var < p.vars.length ∧ (ofF x.val (ybg p) false).1 ≠ 0 := by
 have h1 := List.all_eq_true.1 (ysq h).type r hr
 have h2 := List.all_eq_true.1 (ysq h).form r hr
 simp only [yew, Bool.and_eq_true, beq_iff_eq, List.all_eq_true] at h1
 simp only [ybs, Bool.and_eq_true, decide_eq_true_eq, List.all_eq_true, ycg] at h2
 have h3 := (h2.2.2.2.1 x hx).1
 refine ⟨by omega, by omega, ?_⟩
 rw [h1.2 x hx]
 obtain ⟨y, hy⟩ := ycz (show x.var.toNat < p.vars.length by omega)
 have hk := (yhz ((ydh h).2.2.2 y (List.mem_of_getElem? hy))).1
 simp only [ybg, List.getD_eq_getElem?_getD, List.getElem?_map, hy, Option.map_some, Option.getD_some]
 omega
theorem zgq {p : ProgD} (hp : ycx p = 0) {g : GraphD} {c d : List (List Int)} {v : Nat} (h : Alike g c d v) : zil p ⟨g, c, v⟩ = zil p ⟨g, d, v⟩ := by
 unfold zil
 congr 1
 exact List.map_congr_left fun r hr => zkv h (by omega) (zci hp hr)
theorem ena_alike {p : ProgD} (hp : ycx p = 0) {g : GraphD} {c d : List (List Int)} {v : Nat} (h : Alike g c d v) : zdl p g c v = zdl p g d v := by
 unfold zdl; rw [zgq hp h]
theorem zbc {p : ProgD} {tbl : List (List (Int × Int))} {s s' : Scn} (hv : s'.v = s.v) : ∀ (l : List SetD) (st : List Int), (∀ x ∈ l, s.of x.val = s'.of x.val) → l.foldl (zpt p tbl s) st = l.foldl (zpt p tbl s') st
 | [], st, _ => rfl
 | x :: l, st, h => by
  simp only [List.foldl_cons]
  have e : zpt p tbl s st x = zpt p tbl s' st x := by unfold zpt; rw [h x (by simp), hv]
  rw [e]
  exact zbc hv l _ fun y hy => h y (by simp [hy])
theorem row_alike {p : ProgD} (hp : ycx p = 0) {g : GraphD} {c d : List (List Int)} {v : Nat} (h : Alike g c d v) : zqz p g c v = zqz p g d v := by
 unfold zqz
 rw [zgq hp h]
 unfold ztn
 have e : c.getD v [] = d.getD v [] := by rw [List.getD_eq_getElem?_getD, List.getD_eq_getElem?_getD, h.own]
 simp only
 rw [e]
 refine zbc (s := ⟨g, c, v⟩) (s' := ⟨g, d, v⟩) rfl _ _ fun x hx => ?_
 cases hr : p.rules[(zil p ⟨g, d, v⟩).toNat]? with
 | none => rw [hr] at hx; cases hx
 | some r =>
  rw [hr] at hx
  exact zkv h (zrx hp (List.mem_of_getElem? hr) hx).2.2 rfl
def ysm (g : GraphD) (B : BitVec 32) : BitVec 32 := yph (fun v => (g.ports.getD v []).any fun l => B.getLsbD l.1.toNat) g.ports.length
def onV (p : ProgD) (g : GraphD) (c : List (List Int)) : List (List Int) := yzd p g c (ykl p g c)
theorem zrt {p : ProgD} {g : GraphD} {c : List (List Int)} (h24 : c.length ≤ 24) {v : Nat} {r : List Int} (h : c[v]? = some r) : (onV p g c)[v]? = some (if zdl p g c v then zqz p g c v else r) := by
 have hv := (List.getElem?_eq_some_iff.1 h).1
 unfold onV
 rw [ziq h]
 have e : (ykl p g c).getLsbD v = zdl p g c v := by
  unfold ykl
  rw [yox _ _ _ (by omega)]
  simp [hv]
 rw [e]
def yzi (B : BitVec 32) (c d : List (List Int)) : Prop := c.length = d.length ∧ ∀ v : Nat, B.getLsbD v = false → c[v]? = d[v]?
theorem travel {p : ProgD} (hp : ycx p = 0) {g : GraphD} {c d : List (List Int)} (hlen : c.length = g.ports.length) (h24 : c.length ≤ 24) {B : BitVec 32} (hB : yzi B c d) : yzi (B ||| ysm g B) (onV p g c) (onV p g d) := by
 obtain ⟨h1, h2⟩ := hB
 refine ⟨by simp [onV, yko, h1], fun v hv => ?_⟩
 rcases Nat.lt_or_ge v c.length with hlt | hge
 ·rw [BitVec.getLsbD_or, Bool.or_eq_false_iff] at hv
  obtain ⟨v1, v2⟩ := hv
  unfold ysm at v2
  rw [yox _ _ _ (by omega)] at v2
  have v3 : ((g.ports.getD v []).any fun l => B.getLsbD l.1.toNat) = false := by
   rw [show decide (v < g.ports.length) = true by simp; omega] at v2
   simpa using v2
  have hal : Alike g c d v := by
   refine ⟨h2 v v1, fun ls hls l hl => h2 _ ?_⟩
   rw [List.getD_eq_getElem?_getD, hls, Option.getD_some, List.any_eq_false] at v3
   simpa using v3 l hl
  obtain ⟨r, hr⟩ := ycz hlt
  have hr' : d[v]? = some r := by rw [← h2 v v1]; exact hr
  rw [zrt h24 hr, zrt (by omega) hr', ena_alike hp hal, row_alike hp hal]
 ·rw [List.getElem?_eq_none (by simp [onV, yko]; omega), List.getElem?_eq_none (by simp [onV, yko]; omega)]
theorem within_differ {c d : List (List Int)} (hl : c.length = d.length) (h24 : c.length ≤ 24) : yzi (yqf c d) c d := by
 refine ⟨hl, fun v hv => ?_⟩
 rcases Nat.lt_or_ge v c.length with hlt | hge
 ·unfold yqf at hv
  rw [yox _ _ _ (by omega)] at hv
  have : decide (v < 24) = true := by simp; omega
  rw [this] at hv
  simpa [yfa] using hv
 ·rw [List.getElem?_eq_none (by omega), List.getElem?_eq_none (by omega)]
theorem differ_within {B : BitVec 32} {c d : List (List Int)} (h : yzi B c d) : yqf c d &&& ~~~B = 0#32 := by
 apply BitVec.eq_of_getLsbD_eq
 intro i hi
 rw [BitVec.getLsbD_and, BitVec.getLsbD_not, BitVec.getLsbD_zero]
 cases hb : B.getLsbD i with
 | true => simp
 | false =>
  unfold yqf
  rw [yox _ _ _ hi]
  simp [yfa, h.2 i hb]
theorem state_mk {r : List (Int × Int)} {s : List Int} (hl : s.length = r.length) (h : ∀ (x : Nat) (b : Int × Int), r[x]? = some b → ∃ z, s[x]? = some z ∧ b.1 ≤ z ∧ z ≤ b.2) : yfo r s = true := by
 simp only [yfo, Bool.and_eq_true, beq_iff_eq, List.all_eq_true]
 refine ⟨hl, fun q hq => ?_⟩
 obtain ⟨k, hk⟩ := List.getElem?_of_mem hq
 rw [List.getElem?_zip_eq_some] at hk
 obtain ⟨z, hz, h1, h2⟩ := h k _ hk.1
 rw [hk.2] at hz
 cases hz
 simp [zmr, h1, h2]
theorem state_set {p : ProgD} {g : GraphD} (hf : Fair p g) (h0 : yhv p g = 0) {v : Nat} {r : List (Int × Int)} (hr : (ybk p g)[v]? = some r) {s : List Int} (hs : yfo r s = true) (x : Nat) (z : Int) : yfo r (s.set x (yog p (ybk p g) v x z)) = true := by
 obtain ⟨hl, hb⟩ := yse hs
 refine state_mk (by simp [hl]) fun y b hy => ?_
 by_cases e : x = y
 ·subst e
  obtain ⟨ls, w, h1, h2, rfl⟩ := zgw hr hy
  obtain ⟨hc0, hg, hfit⟩ := yft.1 h0
  have hnum := (ydh hc0).2.2.2 w (List.mem_of_getElem? h2)
  have hll := hf.glen.2.2 ls (List.mem_of_getElem? h1)
  have hok := fit_ok (deg := ls.length) (hfit w (List.mem_of_getElem? h2)) hnum (by omega)
  refine ⟨_, List.getElem?_set_self (by rw [hl]; exact (List.getElem?_eq_some_iff.1 hy).1), ?_⟩
  have e1 : yog p (ybk p g) v x z = yks w.kind (yax w g ls.length).1 (yax w g ls.length).2 z := by
   simp [yog, List.getD_eq_getElem?_getD, hr, hy, h2]
  rw [e1]
  exact bring_in hok.1 fun h3 => by rw [yua h3]
 ·obtain ⟨q, hq, h1, h2⟩ := hb y b hy
  exact ⟨q, by rw [List.getElem?_set_ne e]; exact hq, h1, h2⟩
theorem zbd {p : ProgD} {g : GraphD} (hf : Fair p g) (h0 : yhv p g = 0) {s : Scn} {r : List (Int × Int)} (hr : (ybk p g)[s.v]? = some r) : ∀ (l : List SetD) (st : List Int), yfo r st = true → yfo r (l.foldl (zpt p (ybk p g) s) st) = true
 | [], st, h => h
 | x :: l, st, h => zbd hf h0 hr l _ (state_set hf h0 hr h _ _)
theorem stp_check {p : ProgD} {g : GraphD} (hf : Fair p g) {c : List (List Int)} (hc : yhu p g c = 0) (set : BitVec 32) : yhu p g (yzd p g c set) = 0 := by
 obtain ⟨h0, hin⟩ := yoi.1 hc
 refine yoi.2 ⟨h0, ?_⟩
 obtain ⟨hl, hb⟩ := ywi hin
 simp only [yih, Bool.and_eq_true, beq_iff_eq, List.all_eq_true]
 refine ⟨by rw [yko, hl], fun q hq => ?_⟩
 obtain ⟨v, hv⟩ := List.getElem?_of_mem hq
 rw [List.getElem?_zip_eq_some] at hv
 obtain ⟨s, hs, hst⟩ := hb v q.1 hv.1
 have e := hv.2
 rw [ziq hs] at e
 rw [← Option.some.inj e]
 split
 ·exact zbd hf h0 (s := ⟨g, c, v⟩) hv.1 _ _ (by
   show yfo q.1 (c.getD v []) = true
   rw [List.getD_eq_getElem?_getD, hs]; exact hst)
 ·exact hst
end
section
open Go.RowKit
structure CfgOk (p : ProgD) (g : GraphD) (c : List (List Int)) : Prop where
 fair : Fair p g
 chk : yhu p g c = 0
section
variable {p : ProgD} {g : GraphD} {c : List (List Int)}
theorem CfgOk.fit (h : CfgOk p g c) : yhv p g = 0 := (yoi.1 h.chk).1
theorem CfgOk.prog (h : CfgOk p g c) : ycx p = 0 := (yft.1 h.fit).1
theorem CfgOk.graph (h : CfgOk p g c) : ydd g = true := (yft.1 h.fit).2.1
theorem CfgOk.table (h : CfgOk p g c) : yih (ybk p g) c = true := (yoi.1 h.chk).2
theorem CfgOk.len (h : CfgOk p g c) : c.length = g.ports.length := by
 have := (ywi h.table).1
 rw [this]; simp [ybk]
theorem CfgOk.n24 (h : CfgOk p g c) : g.ports.length ≤ 24 := (ybp h.graph).2.1
theorem CfgOk.row (h : CfgOk p g c) {v : Nat} {r : List Int} (hr : c[v]? = some r) : ∃ b, (ybk p g)[v]? = some b ∧ yfo b r = true := by
 have hv := (List.getElem?_eq_some_iff.1 hr).1
 obtain ⟨b, hb⟩ := ycz (show v < (ybk p g).length by rw [← (ywi h.table).1]; exact hv)
 obtain ⟨s, hs, hst⟩ := (ywi h.table).2 v b hb
 rw [hr] at hs
 cases hs
 exact ⟨b, hb, hst⟩
theorem CfgOk.rowlen (h : CfgOk p g c) : ∀ r ∈ c, r.length = p.vars.length := by
 intro r hr
 obtain ⟨v, hv⟩ := List.getElem?_of_mem hr
 obtain ⟨b, hb, hst⟩ := h.row hv
 rw [(yse hst).1, yyl hb]
theorem CfgOk.vars6 (h : CfgOk p g c) : 1 ≤ p.vars.length ∧ p.vars.length ≤ 6 := by have := ydh h.prog; omega
theorem CfgOk.bd (h : CfgOk p g c) : ∀ r ∈ c, ∀ a ∈ r, -1 ≤ a ∧ a ≤ 1000000 := by
 intro r hr a ha
 obtain ⟨v, hv⟩ := List.getElem?_of_mem hr
 obtain ⟨b, hb, hst⟩ := h.row hv
 obtain ⟨x, hx⟩ := List.getElem?_of_mem ha
 obtain ⟨hl, hbd⟩ := yse hst
 have hxl := (List.getElem?_eq_some_iff.1 hx).1
 obtain ⟨q, hq⟩ := ycz (show x < b.length by omega)
 obtain ⟨z, hz, h1, h2⟩ := hbd x q hq
 rw [hx] at hz
 cases hz
 have := ((table_in h.fair h.fit).2 b (List.mem_of_getElem? hb)).2 q (List.mem_of_getElem? hq)
 obtain ⟨g1, g2, g3⟩ := this
 omega
theorem CfgOk.cin (h : CfgOk p g c) : yvz c := by
 have := h.n24
 refine ⟨by rw [h.len]; omega, fun r hr => ?_⟩
 have := h.rowlen r hr
 have := h.vars6
 omega
theorem CfgOk.scn (h : CfgOk p g c) (v : Nat) : ScnOk ⟨g, c, v⟩ := by
 have hv := ybp h.graph
 have h24 := h.n24
 refine ⟨hv.2.2.2.1, by show g.ids.length ≤ 24; omega, fun ls hls => ?_, fun r hr a ha => ?_⟩
 ·obtain ⟨u, hu⟩ := List.getElem?_of_mem hls
  have hb := hv.2.2.2.2.2.1 u ls hu
  have hul := (List.getElem?_eq_some_iff.1 hu).1
  have hll : ls.length < g.ports.length := ycq hul hb
  refine ⟨by omega, fun l hl => ?_⟩
  have := (ybu _ _ _).1 (((ycl _ _ _).1 hb).1 l hl)
  omega
 ·have := h.bd r hr a ha
  unfold InV yeo; omega
theorem CfgOk.kinds (h : CfgOk p g c) : (ybg p).length = p.vars.length := by simp [ybg]
theorem CfgOk.walk (h : CfgOk p g c) {v : Nat} {ls : List Lk} (hls : g.ports[v]? = some ls) {e : List Tm} (he : ydc e p.vars.length = true) : WalkOk p g c v ls e p.vars.length := by
 obtain ⟨E, _, _, _, h2, h3, _⟩ := ymh he
 exact ⟨h.graph, hls, h.len, fun r hr => by have := h.rowlen r hr; omega, by omega, List.all_eq_true.1 h3, h.scn v⟩
theorem CfgOk.links (h : CfgOk p g c) {v : Nat} (hv : v < c.length) : ∃ ls, g.ports[v]? = some ls := ycz (by rw [← h.len]; exact hv)
end
theorem zls {p : ProgD} {g : GraphD} {c : List (List Int)} (h : CfgOk p g c) {v : Nat} (hv : v < c.length) {e : List Tm} (ht : (ofF e (ybg p) false).1 ≠ 0) : Con Tryz.prog 145 [zbb p g, yfh c, i64 v, ydp e] (i64 ((⟨g, c, v⟩ : Scn).of e)) := by
 obtain ⟨E, hp, hE, ho, hfl, hk, hval, hty⟩ := zsr ht rfl
 obtain ⟨ls, hls⟩ := h.links hv
 have W := h.walk hls (by rw [← h.kinds]; exact hval)
 have hc := ykh W hk E ho 0 [] false (-1) (by rw [hfl]; simp) hty (by unfold InV yeo; omega) (by simp)
 refine yan Tryz.func145 rfl rfl Tryz.ntmps145 Tryz.results145 rfl rfl ?_
 (repeat (first | with_reducible refine ycc ?_ | with_reducible refine ybl ?_ | refine ybx ?_)); refine ydl ?_; refine ydj (lf := lfT) rfl ?_
 (try refine zo ?_)
 (repeat (first | with_reducible refine ycc ?_ | with_reducible refine ybl ?_ | refine ybx ?_))
 refine ydl ?_
 refine zR ?_
 (try refine zo ?_)
 refine zt ?_
 refine yiv 9 rfl rfl rfl rfl rfl ?_
 (repeat (first | refine zy ?_ | refine yac rfl rfl hc rfl rfl ?_))
 refine yaf ?_; refine ⟨_, rfl, ?_⟩
 exact yae (by unfold Scn.of; rw [hE])
theorem sguard_con {p : ProgD} {g : GraphD} {c : List (List Int)} (h : CfgOk p g c) {v : Nat} (hv : v < c.length) {i : Nat} {r : RuleD} (hr : p.rules[i]? = some r) : Con Tryz.prog 228 [zbb p g, yfh c, i64 v, i64 i] (ycp ((⟨g, c, v⟩ : Scn).of r.guard != 0)) := by
 have ht := zci h.prog (List.mem_of_getElem? hr)
 have hc := zls h hv (e := r.guard) (by omega)
 have hlen := (ydh h.prog).2.2.1
 refine yan Tryz.func228 rfl rfl Tryz.ntmps228 Tryz.results228 rfl rfl ?_
 (repeat (first | refine zy ?_ | refine yac rfl rfl hc rfl rfl ?_))
 refine yaf ?_; refine ⟨_, rfl, ?_⟩
 exact yai rfl
end
section
open Go.RowKit
theorem rfact_con (g : GraphD) (hg : ydd g = true) (c : List (List Int)) (v : Nat) (ls : List Lk) (hls : g.ports[v]? = some ls) (op port a : Int) (hop : 6 ≤ op ∧ op ≤ 17 ∧ op ≠ 12) (hp : 12 ≤ op → 0 ≤ port ∧ port < ls.length) :
  Con Tryz.prog 288 [yin g, i64 op, i64 v, i64 port] (i64 ((⟨g, c, v⟩ : Scn).leaf port (op, a))) := by
 have hv := ybp hg
 have hvl := (List.getElem?_eq_some_iff.1 hls).1
 have hlb := hv.2.2.2.2.2.1 v ls hls
 have hll := ycq hvl hlb
 have hids := hv.2.2.1
 obtain ⟨id, hid⟩ := ycz (show v < g.ids.length by omega)
 have hd : (⟨g, c, v⟩ : Scn).deg = ls.length := by simp [Scn.deg, List.getD_eq_getElem?_getD, hls]
 refine yan Tryz.func288 rfl rfl Tryz.ntmps288 Tryz.results288 rfl rfl ?_
 have : op = 6 ∨ op = 7 ∨ op = 8 ∨ op = 9 ∨ op = 10 ∨ op = 11 ∨ 12 < op := by omega
 rcases this with rfl | rfl | rfl | rfl | rfl | rfl | h12
 ·(try refine zy ?_)
  refine yaf ?_; refine ⟨_, rfl, ?_⟩; exact yae (by simp [Scn.leaf, hids])
 ·(repeat (first | refine zy ?_ | refine yac rfl rfl (yuf g (by omega)) rfl rfl ?_))
  refine yaf ?_; refine ⟨_, rfl, ?_⟩; exact yae rfl
 ·(try refine zy ?_)
  refine yaf ?_; refine ⟨_, rfl, ?_⟩; exact yae (by simp [Scn.leaf, List.getD_eq_getElem?_getD, hid])
 ·(try refine zy ?_)
  refine yaf ?_; refine ⟨_, rfl, ?_⟩; exact yae (by simp [Scn.leaf, hd])
 ·(repeat (first | refine zy ?_ | refine yac rfl rfl (ycr _) rfl rfl ?_))
  refine yaf ?_; refine ⟨_, rfl, ?_⟩; exact yae (by simp only [Scn.leaf]; show ymt ((v : Int) == 0) = ymt (v == 0); congr 1; rw [Bool.eq_iff_iff, beq_iff_eq, beq_iff_eq]; omega)
 ·(try refine zy ?_)
  refine yaf ?_; refine ⟨_, rfl, ?_⟩; exact yae rfl
 ·obtain ⟨hp0, hp1⟩ := hp (by omega)
  obtain ⟨l, hl⟩ := ycz (show port.toNat < ls.length by omega)
  have hl1 := (ybu _ _ _).1 (((ycl _ _ _).1 hlb).1 l (List.mem_of_getElem? hl))
  have hlk : (⟨g, c, v⟩ : Scn).link port = l := by simp [Scn.link, List.getD_eq_getElem?_getD, hls, hl]
  obtain ⟨ls', hls'⟩ := ycz (show l.1.toNat < g.ports.length by omega)
  obtain ⟨id', hid'⟩ := ycz (show l.1.toNat < g.ids.length by omega)
  have hll' := ycq (show l.1.toNat < g.ports.length by omega) (hv.2.2.2.2.2.1 _ ls' hls')
  have : op = 13 ∨ op = 14 ∨ op = 15 ∨ op = 16 ∨ op = 17 := by omega
  rcases this with rfl | rfl | rfl | rfl | rfl
  ·(try refine zy ?_)
   refine yaf ?_; refine ⟨_, rfl, ?_⟩; exact yae (by simp [Scn.leaf, hlk, List.getD_eq_getElem?_getD, hid'])
  ·(try refine zy ?_)
   refine yaf ?_; refine ⟨_, rfl, ?_⟩; exact yae (by simp [Scn.leaf, hlk, List.getD_eq_getElem?_getD, hls'])
  ·(repeat (first | refine zy ?_ | refine yac rfl rfl (ycr _) rfl rfl ?_))
   refine yaf ?_; refine ⟨_, rfl, ?_⟩; exact yae (by simp [Scn.leaf, hlk])
  ·(try refine zy ?_)
   refine yaf ?_; refine ⟨_, rfl, ?_⟩; exact yae (by simp [Scn.leaf, hlk])
  ·(repeat (first | refine zy ?_ | refine yac rfl rfl (zkx g l.1 v ls' hl1.1 hls' (by omega)) rfl rfl ?_))
   refine yaf ?_; refine ⟨_, rfl, ?_⟩; exact yae (by simp [Scn.leaf, hlk, List.getD_eq_getElem?_getD, hls'])
theorem rleaf_con (g : GraphD) (hg : ydd g = true) (c : List (List Int)) (v : Nat) (ls : List Lk) (hls : g.ports[v]? = some ls) (t : Tm) (port : Int) (hop : 1 ≤ t.1 ∧ t.1 ≤ 17) (hp : 12 ≤ t.1 → 0 ≤ port ∧ port < ls.length)
  (hc : c.length = g.ports.length) (hx : t.1 = 5 ∨ t.1 = 12 → 0 ≤ t.2 ∧ ∀ r ∈ c, t.2 < r.length) :
  Con Tryz.prog 263 [yin g, yfh c, i64 v, i64 port, .agg [i64 t.1, i64 t.2]] (i64 ((⟨g, c, v⟩ : Scn).leaf port t)) := by
 obtain ⟨op, a⟩ := t
 simp only at hop hp hx ⊢
 have hv := ybp hg
 have hvl := (List.getElem?_eq_some_iff.1 hls).1
 have hlb := hv.2.2.2.2.2.1 v ls hls
 have hll := ycq hvl hlb
 obtain ⟨r, hr⟩ := ycz (show v < c.length by omega)
 refine yan Tryz.func263 rfl rfl Tryz.ntmps263 Tryz.results263 rfl rfl ?_
 have : op = 1 ∨ op = 2 ∨ op = 3 ∨ op = 4 ∨ op = 5 ∨ op = 12 ∨ (6 ≤ op ∧ op ≤ 17 ∧ op ≠ 12) := by omega
 rcases this with rfl | rfl | rfl | rfl | rfl | rfl | h12
 ·(try refine zy ?_)
  refine yaf ?_; refine ⟨_, rfl, ?_⟩; exact yae rfl
 ·(try refine zy ?_)
  refine yaf ?_; refine ⟨_, rfl, ?_⟩; exact yae rfl
 ·(try refine zy ?_)
  refine yaf ?_; refine ⟨_, rfl, ?_⟩; exact yae rfl
 ·(try refine zy ?_)
  refine yaf ?_; refine ⟨_, rfl, ?_⟩; exact yae rfl
 ·obtain ⟨hx0, hx1⟩ := hx (.inl rfl)
  have hx2 := hx1 r (List.mem_of_getElem? hr)
  obtain ⟨z, hz⟩ := ycz (show a.toNat < r.length by omega)
  (try refine zy ?_)
  refine yaf ?_; refine ⟨_, rfl, ?_⟩; exact yae (by simp [Scn.leaf, Scn.get, List.getD_eq_getElem?_getD, hr, hz])
 ·obtain ⟨hp0, hp1⟩ := hp (by omega)
  obtain ⟨l, hl⟩ := ycz (show port.toNat < ls.length by omega)
  have hl1 := (ybu _ _ _).1 (((ycl _ _ _).1 hlb).1 l (List.mem_of_getElem? hl))
  have hlk : (⟨g, c, v⟩ : Scn).link port = l := by simp [Scn.link, List.getD_eq_getElem?_getD, hls, hl]
  obtain ⟨r', hr'⟩ := ycz (show l.1.toNat < c.length by omega)
  obtain ⟨hx0, hx1⟩ := hx (.inr rfl)
  have hx2 := hx1 r' (List.mem_of_getElem? hr')
  obtain ⟨z, hz⟩ := ycz (show a.toNat < r'.length by omega)
  (try refine zy ?_)
  refine yaf ?_; refine ⟨_, rfl, ?_⟩; exact yae (by simp [Scn.leaf, Scn.get, hlk, List.getD_eq_getElem?_getD, hr', hz])
 ·have h1 : ¬ op = 1 := by omega
  have h2 : ¬ op = 2 := by omega
  have h3 : ¬ op = 3 := by omega
  have h4 : ¬ op = 4 := by omega
  have h5 : ¬ op = 5 := by omega
  (try refine zy ?_)
  refine yag rfl (fun q1 => ?_) (fun q1 => ?_)
  ·exact absurd (by simpa using q1) h1
  (try refine zy ?_)
  refine yag rfl (fun q2 => ?_) (fun q2 => ?_)
  ·exact absurd (by simpa using q2) h2
  (try refine zy ?_)
  refine yag rfl (fun q3 => ?_) (fun q3 => ?_)
  ·exact absurd (by simpa using q3) h3
  (try refine zy ?_)
  refine yag rfl (fun q4 => ?_) (fun q4 => ?_)
  ·exact absurd (by simpa using q4) h4
  (try refine zy ?_)
  refine yag rfl (fun q5 => ?_) (fun q5 => ?_)
  ·exact absurd (by simpa using q5) h5
  (try refine zy ?_)
  refine yag rfl (fun q6 => ?_) (fun q6 => ?_)
  ·exact absurd (by simpa using q6) h12.2.2
  (repeat (first | refine zy ?_ | refine yac rfl rfl (rfact_con g hg c v ls hls op port a h12 hp) rfl rfl ?_))
  refine yaf ?_; refine ⟨_, rfl, ?_⟩; exact yae rfl
end
end Go.Proofs.YtgpbgfpjlhoicaaGreatDoor
