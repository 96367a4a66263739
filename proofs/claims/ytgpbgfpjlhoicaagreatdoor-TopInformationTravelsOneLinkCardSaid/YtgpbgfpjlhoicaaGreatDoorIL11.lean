/- Part 11 of the texts under TopInformationTravelsOneLink: joined, with what it needs alone. -/
import Derived.Test.YtgpbgfpjlhoicaaGreatDoorIL6
import Derived.Test.YtgpbgfpjlhoicaaGreatDoorIL7
import Derived.Test.YtgpbgfpjlhoicaaGreatDoorIL8
import Derived.Test.YtgpbgfpjlhoicaaGreatDoorIL9
import Derived.Test.YtgpbgfpjlhoicaaGreatDoorIL10
set_option linter.unusedVariables false
set_option maxRecDepth 100000
set_option maxHeartbeats 8000000
namespace Go.Proofs.YtgpbgfpjlhoicaaGreatDoor
section
open Go.RowKit
def ysf (r : RuleD) : Nat := r.guard.length + (r.sets.map fun x => x.val.length).sum
def zgx (p : ProgD) : Nat := (p.rules.map ysf).sum
theorem zlp {α : Type} {f : α → Nat} {m : Nat} : ∀ {l : List α}, (∀ x ∈ l, f x ≤ m) → (l.map f).sum ≤ l.length * m
 | [], _ => by simp
 | a :: l, h => by
  have := zlp (l := l) fun x hx => h x (by simp [hx])
  have := h a (by simp)
  simp only [List.map_cons, List.sum_cons, List.length_cons, Nat.succ_mul]
  omega
theorem zdh {p : ProgD} (h : yee p = true) : p.rules.length ≤ 16 ∧ (∀ r ∈ p.rules, r.guard.length ≤ 250 ∧ r.sets.length ≤ 10 ∧ ∀ x ∈ r.sets, x.val.length ≤ 250) ∧ zgx p ≤ 44000 ∧ ∀ r ∈ p.rules, ysf r ≤ 2750 := by
 unfold yee at h
 simp only [Bool.and_eq_true, decide_eq_true_eq, List.all_eq_true] at h
 have hr : ∀ r ∈ p.rules, r.guard.length ≤ 250 ∧ r.sets.length ≤ 10 ∧ ∀ x ∈ r.sets, x.val.length ≤ 250 := fun r hr => by
  have := h.2.2.2.2 r hr
  unfold ymr at this
  simp only [Bool.and_eq_true, decide_eq_true_eq, List.all_eq_true] at this
  refine ⟨by omega, by omega, fun x hx => ?_⟩
  have := this.2.2.2 x hx
  omega
 have ht : ∀ r ∈ p.rules, ysf r ≤ 2750 := fun r hr' => by
  obtain ⟨h1, h2, h3⟩ := hr r hr'
  have := zlp (f := fun x : SetD => x.val.length) h3
  unfold ysf
  omega
 refine ⟨h.2.2.1, hr, ?_, ht⟩
 have := zlp ht
 unfold zgx
 omega
theorem zlq {α : Type} {f : α → Nat} {l : List α} {k : Nat} {x : α} (h : l[k]? = some x) : ((l.take (k + 1)).map f).sum = ((l.take k).map f).sum + f x := by
 rw [ycd h]; simp
theorem zlr {α : Type} {f : α → Nat} (l : List α) (k : Nat) : ((l.take k).map f).sum ≤ (l.map f).sum := by
 have := congrArg (fun l => (l.map f).sum) (List.take_append_drop k l)
 simp only [List.map_append, List.sum_append] at this
 omega
theorem zgy (p : ProgD) (hl : yee p = true) : Con Tryz.prog 44 [ypd p] (i64 (zgx p)) := by
 obtain ⟨h1, h2, h3, h4⟩ := zdh hl
 refine yan Tryz.func44 rfl rfl Tryz.ntmps44 Tryz.results44 rfl rfl ?_
 (try refine zy ?_)
 refine ycy (α := Nat) (fun k => [(4, i64 k), (3, i64 (((p.rules.take k).map ysf).sum : Nat)), (1, .lp 1 0)]) (fun k => [(1, some (.cells [zdc p.name, .sl 6 (p.vars.map ydu), .sl 3 (p.rules.map yfb)]))]) (fun k => p.rules.length - k) (fun k => k ≤ p.rules.length) 0 (by omega) (by exact zs) (by exact zh) ?_
 intro k hk
 have hb1 := zlr (f := ysf) p.rules k
 have hb1 : ((p.rules.take k).map ysf).sum ≤ 44000 := Nat.le_trans hb1 h3
 (try refine zy ?_)
 refine yag rfl (fun q1 => ?_) (fun q1 => ?_)
 ·simp at q1
  obtain ⟨r, hr⟩ := ycz q1
  obtain ⟨g1, g2, g3⟩ := h2 r (List.mem_of_getElem? hr)
  (try refine zy ?_)
  refine ycy (α := Nat) (fun j => [(5, i64 j), (4, i64 k), (3, i64 (((p.rules.take k).map ysf).sum + r.guard.length + ((r.sets.take j).map fun x => x.val.length).sum : Nat)), (1, .lp 1 0)]) (fun j => [(1, some (.cells [zdc p.name, .sl 6 (p.vars.map ydu), .sl 3 (p.rules.map yfb)]))]) (fun j => r.sets.length - j) (fun j => j ≤ r.sets.length) 0 (by omega) ?_ (by exact zh) ?_
  ·refine yam rfl (yam rfl (yam (ygt rfl (ymp (by simp))) (by exact zs)))
  intro j hj
  have hb2 := zlr (f := fun x : SetD => x.val.length) r.sets j
  have hb2 : ((r.sets.take j).map fun x => x.val.length).sum ≤ 2500 := Nat.le_trans hb2 (Nat.le_trans (zlp g3) (by omega))
  (try refine zy ?_)
  refine yag rfl (fun q2 => ?_) (fun q2 => ?_)
  ·simp at q2
   obtain ⟨x, hx⟩ := ycz q2
   have := g3 x (List.mem_of_getElem? hx)
   (try refine zy ?_)
   refine rnd (j + 1) (by omega) (by omega) ?_ (by exact zh)
   refine yam rfl (yam rfl (yam (ygt rfl (ymp ?_)) (by exact zs)))
   rw [zlq hx]; omega
  ·simp at q2
   obtain rfl : j = r.sets.length := by omega
   (try refine zy ?_)
   refine rnd (k + 1) (by omega) (by omega) ?_ (by exact zh)
   refine yam rfl (yam (ygt rfl (ymp ?_)) (by exact zs))
   rw [zlq hr, ysf, List.take_length]; omega
 ·simp at q1
  obtain rfl : k = p.rules.length := by omega
  (try refine zy ?_)
  refine yaf ?_; refine ⟨_, rfl, ?_⟩
  exact yae (by rw [List.take_length]; rfl)
def ztl (g : GraphD) : Nat := g.ports.foldl (fun d l => max d l.length) 1
theorem deg_snoc {l : List (List Lk)} {k : Nat} {x : List Lk} (h : l[k]? = some x) : (l.take (k + 1)).foldl (fun d l => max d l.length) 1 = max ((l.take k).foldl (fun d l => max d l.length) 1) x.length := by
 rw [ycd h, List.foldl_append]; rfl
theorem zrl {m : Nat} : ∀ {l : List (List Lk)} {d : Nat}, d ≤ m → (∀ x ∈ l, x.length ≤ m) → l.foldl (fun d l => max d l.length) d ≤ m
 | [], d, h, _ => h
 | a :: l, d, h, hl => zrl (l := l) (by have := hl a (by simp); show max d a.length ≤ m; omega) fun x hx => hl x (by simp [hx])
theorem ywn (g : GraphD) (hl : yle g = true) : Con Tryz.prog 45 [yin g] (i64 (ztl g)) := by
 obtain ⟨h1, h2, h3⟩ := (yer g).1 hl
 refine yan Tryz.func45 rfl rfl Tryz.ntmps45 Tryz.results45 rfl rfl ?_
 (try refine zy ?_)
 refine ycy (α := Nat) (fun k => [(4, i64 k), (3, i64 ((g.ports.take k).foldl (fun d l => max d l.length) 1 : Nat)), (1, .lp 1 0)]) (fun k => [(1, some (.cells [yaq g.ids, ybd g.ports]))]) (fun k => g.ports.length - k) (fun k => k ≤ g.ports.length) 0 (by omega) (yam rfl (yam (ygt rfl (ymp (by simp))) (by exact zs))) (by exact zh) ?_
 intro k hk
 (try refine zy ?_)
 refine yag rfl (fun q1 => ?_) (fun q1 => ?_)
 ·simp at q1
  obtain ⟨ls, hls⟩ := ycz q1
  (try refine zy ?_)
  refine rnd (k + 1) (by omega) (by omega) ?_ (by exact zh)
  refine yam rfl (yam (ygt rfl (ymp ?_)) (by exact zs))
  rw [deg_snoc hls]
  generalize (g.ports.take k).foldl (fun d l => max d l.length) 1 = d
  split <;> omega
 ·simp at q1
  obtain rfl : k = g.ports.length := by omega
  (try refine zy ?_)
  refine yaf ?_; refine ⟨_, rfl, ?_⟩
  exact yae (by rw [List.take_length]; rfl)
theorem zns (g : GraphD) (hl : yle g = true) : ztl g ≤ 30 := by
 obtain ⟨h1, h2, h3⟩ := (yer g).1 hl
 exact zrl (by omega) h3
theorem zuj {a b c A B C : Nat} (ha : a ≤ A) (hb : b ≤ B) (hc : c ≤ C) : 0 ≤ (a : Int) * b ∧ (a : Int) * b ≤ (A * B : Nat) ∧ 0 ≤ (a : Int) * b * c ∧ (a : Int) * b * c ≤ (A * B * C : Nat) ∧ 0 ≤ (a : Int) * b * c * c ∧ (a : Int) * b * c * c ≤ (A * B * C * C : Nat) := by
 have h1 : a * b ≤ A * B := Nat.mul_le_mul ha hb
 have h2 : a * b * c ≤ A * B * C := Nat.mul_le_mul h1 hc
 have h3 : a * b * c * c ≤ A * B * C * C := Nat.mul_le_mul h2 hc
 have e1 : (a : Int) * b = ((a * b : Nat) : Int) := by simp
 have e2 : (a : Int) * b * c = ((a * b * c : Nat) : Int) := by simp
 have e3 : (a : Int) * b * c * c = ((a * b * c * c : Nat) : Int) := by simp
 rw [e3, e2, e1]
 omega
def yps (p : ProgD) (g : GraphD) : Bool := yee p && yle g && decide ((zgx p : Int) * g.ports.length * ztl g * ztl g ≤ 100000)
theorem quick_con (p : ProgD) (g : GraphD) (hin : ygx p) : Con Tryz.prog 43 [ypd p, yin g] (ycp (yps p g)) := by
 refine yan Tryz.func43 rfl rfl Tryz.ntmps43 Tryz.results43 rfl rfl ?_
 (repeat (first | refine zy ?_ | refine yac rfl rfl (lightP_con p hin) rfl rfl ?_))
 refine yau 9 rfl (fun h1 => ?_) (fun h1 => ?_)
 ·(try refine zy ?_)
  refine yaf ?_; refine ⟨_, rfl, ?_⟩
  exact yai (by simp at h1; simp [yps, h1])
 have h1 : yee p = true := by simpa using h1
 (repeat (first | refine zy ?_ | refine yac rfl rfl (lightGraph_con g) rfl rfl ?_))
 refine yag rfl (fun h2 => ?_) (fun h2 => ?_)
 ·(try refine zy ?_)
  refine yaf ?_; refine ⟨_, rfl, ?_⟩
  exact yai (by simp at h2; simp [yps, h2])
 have h2 : yle g = true := by simpa using h2
 have hm := zuj (zdh h1).2.2.1 ((yer g).1 h2).2.1 (zns g h2)
 (repeat (first | refine zy ?_ | refine yac rfl rfl (ywn g h2) rfl rfl ?_ | refine yac rfl rfl (zgy p h1) rfl rfl ?_))
 refine yaf ?_; refine ⟨_, rfl, ?_⟩
 exact yai (by simp [yps, h1, h2])
def zcc (p : ProgD) (g : GraphD) (c : List (List Int)) (n : Int) : Bool := yps p g && decide ((zgx p : Int) * g.ports.length * ztl g * ztl g ≤ 20000) && ynm c && decide (n ≤ 40) && (yhu p g c == 0)
theorem tfair_con (p : ProgD) (g : GraphD) (c : List (List Int)) (n : Int) (hin : ygx p) : Con Tryz.prog 8 [ypd p, yin g, yfh c, i64 n] (ycp (zcc p g c n)) := by
 refine yan Tryz.func8 rfl rfl Tryz.ntmps8 Tryz.results8 rfl rfl ?_
 (repeat (first | refine zy ?_ | refine yac rfl rfl (quick_con p g hin) rfl rfl ?_))
 refine yau 12 rfl (fun h1 => ?_) (fun h1 => ?_)
 ·have h1 : yps p g = true := h1
  have hl1 : yee p = true := by unfold yps at h1; simp only [Bool.and_eq_true] at h1; exact h1.1.1
  have hl2 : yle g = true := by unfold yps at h1; simp only [Bool.and_eq_true] at h1; exact h1.1.2
  have hm := zuj (zdh hl1).2.2.1 ((yer g).1 hl2).2.1 (zns g hl2)
  (repeat (first | refine zy ?_ | refine yac rfl rfl (ywn g hl2) rfl rfl ?_ | refine yac rfl rfl (zgy p hl1) rfl rfl ?_))
  refine yau 27 rfl (fun h2 => ?_) (fun h2 => ?_)
  ·(repeat (first | refine zy ?_ | refine yac rfl rfl (yuj c) rfl rfl ?_))
   refine yau 31 rfl (fun h3 => ?_) (fun h3 => ?_)
   ·have h3 : ynm c = true := h3
    (try refine zy ?_)
    refine yau 35 rfl (fun h4 => ?_) (fun h4 => ?_)
    ·(repeat (first | refine zy ?_ | refine yac rfl rfl (ykc p g c ⟨hin, yvn hl1, hl2⟩ (zfo h3)) rfl rfl ?_))
     refine yaf ?_; refine ⟨_, rfl, ?_⟩
     simp at h2 h4
     exact yai (by simp [zcc, h1, h2, h3, h4])
    ·(try refine zy ?_)
     refine yaf ?_; refine ⟨_, rfl, ?_⟩
     simp at h4
     exact yai (by simp [zcc]; omega)
   ·(try refine zy ?_)
    refine yaf ?_; refine ⟨_, rfl, ?_⟩
    have h3 : ynm c = false := h3
    exact yai (by simp [zcc, h3])
  ·(try refine zy ?_)
   refine yaf ?_; refine ⟨_, rfl, ?_⟩
   simp at h2
   exact yai (by simp [zcc]; omega)
 ·(try refine zy ?_)
  refine yaf ?_; refine ⟨_, rfl, ?_⟩
  have h1 : yps p g = false := h1
  exact yai (by simp [zcc, h1])
def arB (g : GraphD) (B : BitVec 32) (v : Nat) : Bool := (g.ports.getD v []).any fun l => B.getLsbD l.1.toNat
theorem zjf {α : Type} {f : α → Bool} {l : List α} {k : Nat} {x : α} (h : l[k]? = some x) : (l.take (k + 1)).any f = ((l.take k).any f || f x) := by
 rw [ycd h]; simp
theorem around_con (g : GraphD) (hg : ydd g = true) (B : BitVec 32) : Con Tryz.prog 63 [yin g, ycm B] (ycm (ysm g B)) := by
 have hv := ybp hg
 refine yan Tryz.func63 rfl rfl Tryz.ntmps63 Tryz.results63 rfl rfl ?_
 (try refine zy ?_)
 refine ycy (α := Nat) (fun k => [(13, i64 k), (12, i64 g.ports.length), (11, ybd g.ports), (5, ycm (yph (arB g B) k)), (1, ycm B)]) (fun k => []) (fun k => g.ports.length - k) (fun k => k ≤ g.ports.length) 0 (by omega) (by exact zs) yay ?_
 intro k hk
 (try refine zy ?_)
 refine yag rfl (fun h1 => ?_) (fun h1 => ?_)
 ·simp at h1
  obtain ⟨ls, hls⟩ := ycz h1
  have hlb := hv.2.2.2.2.2.1 k ls hls
  have hll := ycq h1 hlb
  let W : Nat → BitVec 32 := fun j => if (ls.take j).any (fun l => B.getLsbD l.1.toNat) = true then yph (arB g B) k ||| (1#32 <<< k) else yph (arB g B) k
  (try refine zy ?_)
  refine ycy (α := Nat) (fun j => [(20, i64 j), (19, i64 ls.length), (18, yhn ls), (6, i64 k), (13, i64 k), (12, i64 g.ports.length), (11, ybd g.ports), (5, ycm (W j)), (1, ycm B)]) (fun j => []) (fun j => ls.length - j) (fun j => j ≤ ls.length) 0 (by omega) (by exact zs) yay ?_
  intro j hj
  (try refine zy ?_)
  refine yag rfl (fun h2 => ?_) (fun h2 => ?_)
  ·simp at h2
   obtain ⟨l, hl⟩ := ycz h2
   have hl1 := (ybu _ _ _).1 (((ycl _ _ _).1 hlb).1 l (List.mem_of_getElem? hl))
   (repeat (first | refine yid tok rfl (by constructor <;> omega) rfl rfl ?_ | refine yel rfl rfl (by omega) rfl rfl ?_ | refine ykr rfl rfl (by omega) rfl rfl ?_ | refine yic rfl rfl rfl rfl ?_ | refine yig rfl rfl rfl rfl ?_ | refine ymi rfl rfl rfl rfl ?_ | refine ybo rfl rfl rfl rfl ?_ | refine zI ?_ | refine zL ?_ | refine zC ?_ | refine ydw ?_ | refine ydl ?_ | refine zR ?_ | refine zD ?_ | refine zK ?_ | refine zB ?_ | refine zA ?_ | refine zS ?_ | refine zU ?_ | refine zV ?_ | refine zF ?_ | refine zN ?_ | with_reducible refine ybl ?_ | with_reducible refine ycc ?_ | refine ybr ?_ | refine ybx ?_ | refine yco ?_ | refine zT ?_ | refine zE ?_ | refine zX ?_))
   refine yag rfl (fun h3 => ?_) (fun h3 => ?_)
   ·rw [zdb] at h3
    (repeat (first | refine yid tok rfl (by constructor <;> omega) rfl rfl ?_ | refine yel rfl rfl (by omega) rfl rfl ?_ | refine ykr rfl rfl (by omega) rfl rfl ?_ | refine yic rfl rfl rfl rfl ?_ | refine yig rfl rfl rfl rfl ?_ | refine ymi rfl rfl rfl rfl ?_ | refine ybo rfl rfl rfl rfl ?_ | refine zI ?_ | refine zL ?_ | refine zC ?_ | refine ydw ?_ | refine ydl ?_ | refine zR ?_ | refine zD ?_ | refine zK ?_ | refine zB ?_ | refine zA ?_ | refine zS ?_ | refine zU ?_ | refine zV ?_ | refine zF ?_ | refine zN ?_ | with_reducible refine ybl ?_ | with_reducible refine ycc ?_ | refine ybr ?_ | refine ybx ?_ | refine yco ?_ | refine zT ?_ | refine zE ?_ | refine zX ?_))
    refine rnd (j + 1) (by omega) (by omega) ?_ yay
    refine yam rfl (yam rfl (yam rfl (yam rfl (yam rfl (yam rfl (yam rfl (yam (ygt rfl ?_) (by exact zs))))))))
    simp only [W]
    rw [zjf hl, h3, Bool.or_true, if_pos rfl]
    split
    ·rw [Int.toNat_natCast, BitVec.or_assoc, BitVec.or_self]
    ·rfl
   ·rw [zdb] at h3
    (try refine zy ?_)
    refine rnd (j + 1) (by omega) (by omega) ?_ yay
    refine yam rfl (yam rfl (yam rfl (yam rfl (yam rfl (yam rfl (yam rfl (yam (ygt rfl ?_) (by exact zs))))))))
    simp only [W]
    rw [zjf hl, h3, Bool.or_false]
  ·simp at h2
   obtain rfl : j = ls.length := by omega
   (try refine zy ?_)
   refine rnd (k + 1) (by omega) (by omega) ?_ yay
   refine yam rfl (yam rfl (yam rfl (yam (ygt rfl ?_) (by exact zs))))
   simp only [W]
   rw [List.take_length, yph]
   have e : arB g B k = ls.any fun l => B.getLsbD l.1.toNat := by unfold arB; rw [List.getD_eq_getElem?_getD, hls]; rfl
   rw [e]
 ·simp at h1
  obtain rfl : k = g.ports.length := by omega
  (try refine zy ?_)
  refine yaf ?_; refine ⟨_, rfl, ?_⟩
  exact Frz.pure
theorem neigh_con (g : GraphD) (hg : ydd g = true) (hl : yle g = true) (B : BitVec 32) : Con Tryz.prog 23 [yin g, ycm B] (ycm (ysm g B)) := by
 have hv := zac g hl
 rw [hg] at hv
 refine yan Tryz.func23 rfl rfl Tryz.ntmps23 Tryz.results23 rfl rfl ?_
 (repeat (first | refine zy ?_ | refine yac rfl rfl hv rfl rfl ?_ | refine yac rfl rfl (around_con g hg B) rfl rfl ?_))
 refine yaf ?_; refine ⟨_, rfl, ?_⟩
 exact Frz.pure
theorem zat {p : ProgD} {g : GraphD} {c : List (List Int)} (h : CfgOk p g c) : Con Tryz.prog 22 [ypd p, yin g, yfh c] (.tup [yfh (onV p g c), ycp true]) := by
 have hst := h.step (ykl p g c)
 have hm := ykc p g _ hst.fair hst.cin
 rw [hst.chk] at hm
 refine yan Tryz.func22 rfl rfl Tryz.ntmps22 Tryz.results22 rfl rfl ?_
 (repeat (first | refine zy ?_ | refine yac rfl rfl (senabled_con h) rfl rfl ?_ | refine yac rfl rfl (renabled_con h) rfl rfl ?_))
 refine yag rfl (fun h1 => ?_) (fun h1 => ?_)
 ·rw [ziu] at h1; simp at h1
 (try refine zy ?_)
 refine yag rfl (fun h2 => ?_) (fun h2 => ?_)
 ·rw [ygv] at h2
  have h2 : ykl p g c = 0#32 := by simpa using h2
  (try refine zy ?_)
  refine yaf ?_; refine ⟨_, rfl, ?_⟩
  have : onV p g c = c := by
   unfold onV yzd
   rw [h2]
   apply List.ext_getElem?
   intro i
   rw [List.getElem?_mapIdx]
   cases c[i]? <;> simp
  rw [this]
  exact Frz.pure
 ·rw [ygv] at h2
  have h2 : ykl p g c ≠ 0#32 := by simpa using h2
  (repeat (first | refine zy ?_ | refine yac rfl rfl (sstep_con h (ykl p g c) h2 (by apply BitVec.eq_of_getLsbD_eq; intro i hi; simp)) rfl rfl ?_ | refine yac rfl rfl hm rfl rfl ?_))
  refine yaf ?_; refine ⟨_, rfl, ?_⟩
  exact Frz.pure
end
section
open Go.RowKit
theorem rdiffer_con (c d : List (List Int)) (hc : yvz c) (hd : yvz d) : Con Tryz.prog 21 [yfh c, yfh d] (ycm (yqf c d)) := by
 have hcl := hc.1
 have hdl := hd.1
 refine yan Tryz.func21 rfl rfl Tryz.ntmps21 Tryz.results21 rfl rfl ?_
 (try refine zy ?_)
 refine ycy (α := Nat) (fun k => [(6, i64 k), (5, ycm (yph (yfa c d) k)), (0, yfh c), (1, yfh d)]) (fun _ => []) (fun k => 24 - k) (fun k => k ≤ 24) 0 (by omega) (by exact zs) (by exact zh) ?_
 intro k hk
 (try refine zy ?_)
 refine yag rfl (fun h1 => ?_) (fun h1 => ?_)
 ·simp at h1
  have hnext : ∀ b, yfa c d k = b → yph (yfa c d) (k + 1) = if b = true then yph (yfa c d) k ||| (1#32 <<< k) else yph (yfa c d) k := fun b hb => by rw [yph, hb]
  (try refine zy ?_)
  refine yau 14 rfl (fun e1 => ?_) (fun e1 => ?_)
  ·simp at e1
   obtain ⟨a, ha⟩ := ycz e1
   refine yau 18 rfl (fun e2 => ?_) (fun e2 => ?_)
   ·simp at e2
    obtain ⟨b, hb⟩ := ycz e2
    (repeat (first | refine yid tok rfl (by constructor <;> omega) rfl rfl ?_ | refine yel rfl rfl (by omega) rfl rfl ?_ | refine yic rfl rfl rfl rfl ?_ | refine ybo rfl rfl rfl rfl ?_ | refine zI ?_ | refine zL ?_ | refine zC ?_ | refine ydw ?_ | refine ydl ?_ | refine zR ?_ | refine zD ?_ | refine zK ?_ | refine zB ?_ | refine zA ?_ | refine zS ?_ | refine zU ?_ | refine zV ?_ | refine zF ?_ | with_reducible refine ybl ?_ | with_reducible refine ycc ?_ | refine ybr ?_ | refine ybx ?_ | refine yco ?_ | refine zT ?_ | refine zE ?_ | refine zX ?_ | refine ymj tok rfl rfl rfl rfl rfl ?_))
    refine yau 25 rfl (fun e3 => ?_) (fun e3 => ?_)
    ·(try refine zy ?_)
     refine yau 31 rfl (fun e4 => ?_) (fun e4 => ?_)
     ·(repeat (first | refine zy ?_ | refine yac rfl rfl (sameInts_con a b (hc.2 a (List.mem_of_getElem? ha))) rfl rfl ?_))
      refine yag rfl (fun h2 => ?_) (fun h2 => ?_)
      ·(repeat (first | refine yid tok rfl (by constructor <;> omega) rfl rfl ?_ | refine yel rfl rfl (by omega) rfl rfl ?_ | refine yic rfl rfl rfl rfl ?_ | refine ybo rfl rfl rfl rfl ?_ | refine zI ?_ | refine zL ?_ | refine zC ?_ | refine ydw ?_ | refine ydl ?_ | refine zR ?_ | refine zD ?_ | refine zK ?_ | refine zB ?_ | refine zA ?_ | refine zS ?_ | refine zU ?_ | refine zV ?_ | refine zF ?_ | with_reducible refine ybl ?_ | with_reducible refine ycc ?_ | refine ybr ?_ | refine ybx ?_ | refine yco ?_ | refine zT ?_ | refine zE ?_ | refine zX ?_ | refine ymj tok rfl rfl rfl rfl rfl ?_))
       have e := hnext true (by simp [yfa, ha, hb]; simpa using h2)
       rw [if_pos rfl] at e
       refine rnd (k + 1) (by omega) (by omega) ?_ (by exact zh)
       rw [e]
       exact (by exact zs)
      ·(try refine zy ?_)
       have e := hnext false (by simp [yfa, ha, hb]; simpa using h2)
       rw [if_neg (by simp)] at e
       refine rnd (k + 1) (by omega) (by omega) ?_ (by exact zh)
       rw [e]
       exact (by exact zs)
     ·exfalso; simp at e4; omega
    ·exfalso; simp at e3; omega
   ·simp at e2
    (repeat (first | refine yid tok rfl (by constructor <;> omega) rfl rfl ?_ | refine yel rfl rfl (by omega) rfl rfl ?_ | refine yic rfl rfl rfl rfl ?_ | refine ybo rfl rfl rfl rfl ?_ | refine zI ?_ | refine zL ?_ | refine zC ?_ | refine ydw ?_ | refine ydl ?_ | refine zR ?_ | refine zD ?_ | refine zK ?_ | refine zB ?_ | refine zA ?_ | refine zS ?_ | refine zU ?_ | refine zV ?_ | refine zF ?_ | with_reducible refine ybl ?_ | with_reducible refine ycc ?_ | refine ybr ?_ | refine ybx ?_ | refine yco ?_ | refine zT ?_ | refine zE ?_ | refine zX ?_ | refine ymj tok rfl rfl rfl rfl rfl ?_))
    have e := hnext true (by simp [yfa, ha, List.getElem?_eq_none e2])
    rw [if_pos rfl] at e
    refine rnd (k + 1) (by omega) (by omega) ?_ (by exact zh)
    rw [e]
    exact (by exact zs)
  ·simp at e1
   refine yau 18 rfl (fun e2 => ?_) (fun e2 => ?_)
   ·simp at e2
    obtain ⟨b, hb⟩ := ycz e2
    (repeat (first | refine yid tok rfl (by constructor <;> omega) rfl rfl ?_ | refine yel rfl rfl (by omega) rfl rfl ?_ | refine yic rfl rfl rfl rfl ?_ | refine ybo rfl rfl rfl rfl ?_ | refine zI ?_ | refine zL ?_ | refine zC ?_ | refine ydw ?_ | refine ydl ?_ | refine zR ?_ | refine zD ?_ | refine zK ?_ | refine zB ?_ | refine zA ?_ | refine zS ?_ | refine zU ?_ | refine zV ?_ | refine zF ?_ | with_reducible refine ybl ?_ | with_reducible refine ycc ?_ | refine ybr ?_ | refine ybx ?_ | refine yco ?_ | refine zT ?_ | refine zE ?_ | refine zX ?_ | refine ymj tok rfl rfl rfl rfl rfl ?_))
    have e := hnext true (by simp [yfa, hb, List.getElem?_eq_none e1])
    rw [if_pos rfl] at e
    refine rnd (k + 1) (by omega) (by omega) ?_ (by exact zh)
    rw [e]
    exact (by exact zs)
   ·simp at e2
    (repeat (first | refine yid tok rfl (by constructor <;> omega) rfl rfl ?_ | refine yel rfl rfl (by omega) rfl rfl ?_ | refine yic rfl rfl rfl rfl ?_ | refine ybo rfl rfl rfl rfl ?_ | refine zI ?_ | refine zL ?_ | refine zC ?_ | refine ydw ?_ | refine ydl ?_ | refine zR ?_ | refine zD ?_ | refine zK ?_ | refine zB ?_ | refine zA ?_ | refine zS ?_ | refine zU ?_ | refine zV ?_ | refine zF ?_ | with_reducible refine ybl ?_ | with_reducible refine ycc ?_ | refine ybr ?_ | refine ybx ?_ | refine yco ?_ | refine zT ?_ | refine zE ?_ | refine zX ?_ | refine ymj tok rfl rfl rfl rfl rfl ?_))
    refine yau 25 rfl (fun e3 => ?_) (fun e3 => ?_)
    ·exfalso; simp at e3; omega
    ·(try refine zy ?_)
     have e := hnext false (by simp [yfa, List.getElem?_eq_none e1, List.getElem?_eq_none e2])
     rw [if_neg (by simp)] at e
     refine rnd (k + 1) (by omega) (by omega) ?_ (by exact zh)
     rw [e]
     exact (by exact zs)
 ·simp at h1
  obtain rfl : k = 24 := by omega
  (try refine zy ?_)
  refine yaf ?_; refine ⟨_, rfl, ?_⟩
  exact Frz.pure
end
section
open Go.RowKit
theorem L_remK {P : Program} {N : Nat} {ops : Array Oper} {lf : Oper → Bool} {Q : SS → Prop} {t : List (Nat × AV)} {h : List (Nat × Option LObj)} {rest : List Oper} {d : Nat} {ty : TypeId} {pos : String} {af : Array Edge} {gd : Option (Nat × Bool)} {x y : Operand} {a b : Int} {k : IntKind} {tx ty' : TypeId} (hx : evF (look t) x = some (.v (.int k a))) (hy : evF (look t) y = some (.v (.int k b))) (hb : b ≠ 0)
  (hw : yaj ops (look t) ⟨some d, .binOp .rem tx x y ty', ty, pos, af, gd⟩ = some true) (hd : Nat.blt d N = true) (kk : Lex P N ops lf Q rest (S ((d, .v (.int k (a.tmod b))) :: t) h)) : Lex P N ops lf Q (⟨some d, .binOp .rem tx x y ty', ty, pos, af, gd⟩ :: rest) (S t h) :=
 ycf (zhg hx hy hb) hw hd kk
theorem fairT_ok {p : ProgD} {g : GraphD} {c : List (List Int)} {n : Int} (hin : ygx p) (h : zcc p g c n = true) : CfgOk p g c ∧ n ≤ 40 ∧ ynm c = true := by
 unfold zcc yps at h
 simp only [Bool.and_eq_true, decide_eq_true_eq, beq_iff_eq] at h
 exact ⟨⟨⟨hin, yvn h.1.1.1.1.1.1, h.1.1.1.1.1.2⟩, h.2⟩, h.1.2, h.1.1.2⟩
theorem travel_con (haw : Con Tryz.prog 11 [] (ycp true)) (p : ProgD) (g : GraphD) (c d : List (List Int)) (n : Int) (hn : 0 ≤ n ∧ n ≤ 255) (hin : ygx p) : Con Tryz.prog 4 [ypd p, yin g, yfh c, yfh d, .v (.int .u8 n)] (ycp true) := by
 have hm : 0 ≤ n.tmod 12 ∧ n.tmod 12 ≤ 11 := by
  have h1 := Int.tmod_nonneg 12 hn.1
  have h2 := Int.tmod_lt_of_pos n (show (0 : Int) < 12 by omega)
  omega
 refine yan Tryz.func4 rfl rfl Tryz.ntmps4 Tryz.results4 rfl rfl ?_
 (repeat (first | refine zy ?_ | refine yac rfl rfl (tfair_con p g c 0 hin) rfl rfl ?_))
 refine yau 22 rfl (fun h1 => ?_) (fun h1 => ?_)
 ·(repeat (first | refine zy ?_ | refine yac rfl rfl haw rfl rfl ?_))
  refine yaf ?_; refine ⟨_, rfl, ?_⟩
  exact Frz.pure
 have h1 : zcc p g c 0 = true := by simpa using h1
 obtain ⟨hc, _, _⟩ := fairT_ok hin h1
 (repeat (first | refine zy ?_ | refine yac rfl rfl (yuj d) rfl rfl ?_))
 refine yau 27 rfl (fun h2 => ?_) (fun h2 => ?_)
 ·(repeat (first | refine zy ?_ | refine yac rfl rfl haw rfl rfl ?_))
  refine yaf ?_; refine ⟨_, rfl, ?_⟩
  exact Frz.pure
 have h2 : ynm d = true := by simpa using h2
 (repeat (first | refine zy ?_ | refine yac rfl rfl (ykc p g d hc.fair (zfo h2)) rfl rfl ?_))
 refine yag rfl (fun h3 => ?_) (fun h3 => ?_)
 ·(repeat (first | refine zy ?_ | refine yac rfl rfl haw rfl rfl ?_))
  refine yaf ?_; refine ⟨_, rfl, ?_⟩
  exact Frz.pure
 have hd : CfgOk p g d := ⟨hc.fair, by simpa using h3⟩
 (repeat (first | refine zy ?_ | refine yac rfl rfl (yxm c d hc.cin hd.cin) rfl rfl ?_ | refine yac rfl rfl (rdiffer_con c d hc.cin hd.cin) rfl rfl ?_))
 refine yag rfl (fun h4 => ?_) (fun h4 => ?_)
 ·rw [ziu] at h4; simp at h4
 have h24 := hc.n24
 have hcl := hc.len
 have hdl := hd.len
 (try refine zy ?_)
 refine ycy (α := Nat × List (List Int) × List (List Int) × BitVec 32) (fun a => [(12, i64 a.1), (11, ycm a.2.2.2), (2, yfh a.2.1), (3, yfh a.2.2.1), (4, .v (.int .u8 n)), (5, .lp 5 0), (6, .lp 6 0)]) (fun a => [(5, some (.cells [zdc p.name, .sl 6 (p.vars.map ydu), .sl 3 (p.rules.map yfb)])), (6, some (.cells [yaq g.ids, ybd g.ports]))]) (fun a => 12 - a.1) (fun a => a.1 ≤ 12 ∧ CfgOk p g a.2.1 ∧ CfgOk p g a.2.2.1 ∧ yzi a.2.2.2 a.2.1 a.2.2.1) (0, c, d, yqf c d) ⟨by simp, hc, hd, within_differ (by omega) (by omega)⟩ (by exact zs) (by exact zh) ?_
 rintro ⟨k, x, y, B⟩ ⟨hk, hx, hy, hW⟩
 simp only at hk hx hy hW ⊢
 (repeat (first | refine zy ?_ | refine L_remK rfl rfl (by omega) rfl rfl ?_))
 refine yag rfl (fun h5 => ?_) (fun h5 => ?_)
 ·have h5 : (k : Int) < n.tmod 12 := by simpa using h5
  (repeat (first | refine zy ?_ | refine yac rfl rfl (zat hx) rfl rfl ?_ | refine yac rfl rfl (zat hy) rfl rfl ?_))
  have hxn : CfgOk p g (onV p g x) := hx.step _
  have hyn : CfgOk p g (onV p g y) := hy.step _
  have hWn : yzi (B ||| ysm g B) (onV p g x) (onV p g y) := travel hx.prog hx.len (by have := hx.len; omega) hW
  (repeat (first | refine yid tok rfl (by constructor <;> omega) rfl rfl ?_ | refine yel rfl rfl (by omega) rfl rfl ?_ | refine yic rfl rfl rfl rfl ?_ | refine ybo rfl rfl rfl rfl ?_ | refine zI ?_ | refine zL ?_ | refine zC ?_ | refine ydw ?_ | refine ydl ?_ | refine zR ?_ | refine zD ?_ | refine zK ?_ | refine zB ?_ | refine zA ?_ | refine zS ?_ | refine zU ?_ | refine zV ?_ | refine zF ?_ | with_reducible refine ybl ?_ | with_reducible refine ycc ?_ | refine ybr ?_ | refine ybx ?_ | refine yco ?_ | refine zT ?_ | refine zE ?_ | refine zX ?_ | refine yac rfl rfl (neigh_con g hx.graph hx.fair.lg B) rfl rfl ?_ | refine yac rfl rfl (yxm _ _ hxn.cin hyn.cin) rfl rfl ?_))
  refine yag rfl (fun h6 => ?_) (fun h6 => ?_)
  ·rw [ypb, differ_within hWn] at h6; simp at h6
  (try refine zy ?_)
  exact rnd (k + 1, onV p g x, onV p g y, B ||| ysm g B) ⟨by simp only; omega, hxn, hyn, hWn⟩ (by simp only; omega) (by exact zs) (by exact zh)
 ·(repeat (first | refine zy ?_ | refine yac rfl rfl haw rfl rfl ?_))
  refine yaf ?_; refine ⟨_, rfl, ?_⟩
  exact Frz.pure
end
section
open Go.RowKit
def zmc (n k : Nat) : List AV := (List.range k).map (fun v : Nat => i64 v) ++ List.replicate (n - k) (i64 0)
theorem fidK_len {n k : Nat} (h : k ≤ n) : (zmc n k).length = n := by simp [zmc]; omega
theorem fidK_next {n k : Nat} (h : k < n) : (zmc n k).set k (i64 k) = zmc n (k + 1) := by
 unfold zmc
 rw [List.set_append_right _ _ (by simp), List.range_succ]
 obtain ⟨m, hm⟩ : ∃ m, n - k = m + 1 := ⟨n - k - 1, by omega⟩
 rw [show n - (k + 1) = m by omega, hm]
 simp [List.replicate_succ]
theorem empty_own (n : Nat) (hn : n ≤ 24) : yva Tryz.prog 51 [i64 n] (yad []) (.agg [.ls 6 1 n, .ls 8 1 n]) (yad [(6, some (.vec (zmc n n))), (8, some (.vec (List.replicate n yos)))]) := by
 refine zbw tok Tryz.func51 rfl rfl Tryz.ntmps51 Tryz.results51 rfl (fun id o h h2 => ?_) ?_
 ·simp only [yad] at h
  split at h
  ·cases h; cases h2
  ·split at h
   ·cases h; cases h2
   ·cases h
 (repeat (first | with_reducible refine ycc ?_ | with_reducible refine ybl ?_ | refine ybx ?_)); refine ydl ?_; refine ydj (lf := lfT) rfl ?_
 (try refine zo ?_)
 refine zt ?_
 have hz1 : yms n (yln [Value.int .i64 0]) = zmc n 0 := by
  rw [show yln [Value.int .i64 0] = [i64 0] from rfl, ztp]; simp [zmc]
 have hz2 : yms n (yln [Value.slice none 0 0]) = List.replicate n yos := by
  rw [show yln [Value.slice none 0 0] = [yos] from rfl, ztp]
 refine zdo [(3, .lp 3 0), (2, .lp 2 0)] [(3, some (.cells [.ls 6 1 n, .ls 8 1 n])), (6, some (.vec (yms n (yln [Value.int .i64 0])))), (8, some (.vec (yms n (yln [Value.slice none 0 0])))), (2, some (.cells (yln zth.zero)))] ?_ ?_
 ·have hlim : n ≤ 4294967296 ∧ 8 * n ≤ 281474976710656 := by constructor <;> omega
  have hlim2 : n ≤ 4294967296 ∧ 24 * n ≤ 281474976710656 := by constructor <;> omega
  refine yeb (lf := lf0) zcu rfl ?_
  refine ybc [0, 2, 5] 6 rfl (by kernel_rfl) (by simp) ⟨⟨_, rfl, ?_⟩, ⟨_, rfl, ?_⟩, ⟨_, rfl, ?_⟩, trivial⟩
  ·(repeat (first | refine zo ?_ | refine yao tok rfl rfl rfl rfl (by first | exact hlim | exact hlim2) rfl rfl rfl rfl rfl ?_))
   refine ybc [1, 2, 5] 5 rfl (by kernel_rfl) (by simp) ⟨⟨_, rfl, ?_⟩, ⟨_, rfl, ?_⟩, ⟨_, rfl, ?_⟩, trivial⟩
   ·(repeat (first | refine zo ?_ | refine yao tok rfl rfl rfl rfl (by first | exact hlim | exact hlim2) rfl rfl rfl rfl rfl ?_))
    refine ybc [2, 5] 4 rfl (by kernel_rfl) (by simp) ⟨⟨_, rfl, ?_⟩, ⟨_, rfl, ?_⟩, trivial⟩
    ·(repeat (first | refine zo ?_ | refine yao tok rfl rfl rfl rfl (by first | exact hlim | exact hlim2) rfl rfl rfl rfl rfl ?_))
     refine ybc [3, 5] 3 rfl (by kernel_rfl) (by simp) ⟨⟨_, rfl, ?_⟩, ⟨_, rfl, ?_⟩, trivial⟩
     ·(repeat (first | refine zo ?_ | refine yao tok rfl rfl rfl rfl (by first | exact hlim | exact hlim2) rfl rfl rfl rfl rfl ?_))
      refine ybc [4, 5] 2 rfl (by kernel_rfl) (by simp) ⟨⟨_, rfl, ?_⟩, ⟨_, rfl, ?_⟩, trivial⟩
      ·(repeat (first | refine zo ?_ | refine yao tok rfl rfl rfl rfl (by first | exact hlim | exact hlim2) rfl rfl rfl rfl rfl ?_))
       refine yar [5, 6] (yaa rfl (yaa rfl yak)) rfl (by kernel_rfl) ?_
       (repeat (first | refine zo ?_ | refine yao tok rfl rfl rfl rfl (by first | exact hlim | exact hlim2) rfl rfl rfl rfl rfl ?_))
       exact mid (by exact zs) (by exact zh)
      ·(repeat (first | refine zo ?_ | refine yao tok rfl rfl rfl rfl (by first | exact hlim | exact hlim2) rfl rfl rfl rfl rfl ?_))
       refine yar [4, 6] (yaa rfl (yaa rfl yak)) rfl (by kernel_rfl) ?_
       (repeat (first | refine zo ?_ | refine yao tok rfl rfl rfl rfl (by first | exact hlim | exact hlim2) rfl rfl rfl rfl rfl ?_))
       exact mid (by exact zs) (by exact zh)
     ·(repeat (first | refine zo ?_ | refine yao tok rfl rfl rfl rfl (by first | exact hlim | exact hlim2) rfl rfl rfl rfl rfl ?_))
      refine yar [3, 4, 6] (yaa rfl (yaa rfl (yaa rfl yak))) rfl (by kernel_rfl) ?_
      (repeat (first | refine zo ?_ | refine yao tok rfl rfl rfl rfl (by first | exact hlim | exact hlim2) rfl rfl rfl rfl rfl ?_))
      exact mid (by exact zs) (by exact zh)
    ·(repeat (first | refine zo ?_ | refine yao tok rfl rfl rfl rfl (by first | exact hlim | exact hlim2) rfl rfl rfl rfl rfl ?_))
     refine yar [2, 3, 4, 6] (yaa rfl (yaa rfl (yaa rfl (yaa rfl yak)))) rfl (by kernel_rfl) ?_
     (repeat (first | refine zo ?_ | refine yao tok rfl rfl rfl rfl (by first | exact hlim | exact hlim2) rfl rfl rfl rfl rfl ?_))
     exact mid (by exact zs) (by exact zh)
   ·(repeat (first | refine zo ?_ | refine yao tok rfl rfl rfl rfl (by first | exact hlim | exact hlim2) rfl rfl rfl rfl rfl ?_))
    refine ybc [1, 3, 5] 4 rfl (by kernel_rfl) (by simp) ⟨⟨_, rfl, ?_⟩, ⟨_, rfl, ?_⟩, ⟨_, rfl, ?_⟩, trivial⟩
    ·(repeat (first | refine zo ?_ | refine yao tok rfl rfl rfl rfl (by first | exact hlim | exact hlim2) rfl rfl rfl rfl rfl ?_))
     refine ybc [3, 5] 3 rfl (by kernel_rfl) (by simp) ⟨⟨_, rfl, ?_⟩, ⟨_, rfl, ?_⟩, trivial⟩
     ·(repeat (first | refine zo ?_ | refine yao tok rfl rfl rfl rfl (by first | exact hlim | exact hlim2) rfl rfl rfl rfl rfl ?_))
      refine ybc [4, 5] 2 rfl (by kernel_rfl) (by simp) ⟨⟨_, rfl, ?_⟩, ⟨_, rfl, ?_⟩, trivial⟩
      ·(repeat (first | refine zo ?_ | refine yao tok rfl rfl rfl rfl (by first | exact hlim | exact hlim2) rfl rfl rfl rfl rfl ?_))
       refine yar [5, 6] (yaa rfl (yaa rfl yak)) rfl (by kernel_rfl) ?_
       (repeat (first | refine zo ?_ | refine yao tok rfl rfl rfl rfl (by first | exact hlim | exact hlim2) rfl rfl rfl rfl rfl ?_))
       exact mid (by exact zs) (by exact zh)
      ·(repeat (first | refine zo ?_ | refine yao tok rfl rfl rfl rfl (by first | exact hlim | exact hlim2) rfl rfl rfl rfl rfl ?_))
       refine yar [4, 6] (yaa rfl (yaa rfl yak)) rfl (by kernel_rfl) ?_
       (repeat (first | refine zo ?_ | refine yao tok rfl rfl rfl rfl (by first | exact hlim | exact hlim2) rfl rfl rfl rfl rfl ?_))
       exact mid (by exact zs) (by exact zh)
     ·(repeat (first | refine zo ?_ | refine yao tok rfl rfl rfl rfl (by first | exact hlim | exact hlim2) rfl rfl rfl rfl rfl ?_))
      refine yar [3, 4, 6] (yaa rfl (yaa rfl (yaa rfl yak))) rfl (by kernel_rfl) ?_
      (repeat (first | refine zo ?_ | refine yao tok rfl rfl rfl rfl (by first | exact hlim | exact hlim2) rfl rfl rfl rfl rfl ?_))
      exact mid (by exact zs) (by exact zh)
    ·(repeat (first | refine zo ?_ | refine yao tok rfl rfl rfl rfl (by first | exact hlim | exact hlim2) rfl rfl rfl rfl rfl ?_))
     refine ybc [1, 5] 3 rfl (by kernel_rfl) (by simp) ⟨⟨_, rfl, ?_⟩, ⟨_, rfl, ?_⟩, trivial⟩
     ·(repeat (first | refine zo ?_ | refine yao tok rfl rfl rfl rfl (by first | exact hlim | exact hlim2) rfl rfl rfl rfl rfl ?_))
      refine ybc [4, 5] 2 rfl (by kernel_rfl) (by simp) ⟨⟨_, rfl, ?_⟩, ⟨_, rfl, ?_⟩, trivial⟩
      ·(repeat (first | refine zo ?_ | refine yao tok rfl rfl rfl rfl (by first | exact hlim | exact hlim2) rfl rfl rfl rfl rfl ?_))
       refine yar [5, 6] (yaa rfl (yaa rfl yak)) rfl (by kernel_rfl) ?_
       (repeat (first | refine zo ?_ | refine yao tok rfl rfl rfl rfl (by first | exact hlim | exact hlim2) rfl rfl rfl rfl rfl ?_))
       exact mid (by exact zs) (by exact zh)
      ·(repeat (first | refine zo ?_ | refine yao tok rfl rfl rfl rfl (by first | exact hlim | exact hlim2) rfl rfl rfl rfl rfl ?_))
       refine yar [4, 6] (yaa rfl (yaa rfl yak)) rfl (by kernel_rfl) ?_
       (repeat (first | refine zo ?_ | refine yao tok rfl rfl rfl rfl (by first | exact hlim | exact hlim2) rfl rfl rfl rfl rfl ?_))
       exact mid (by exact zs) (by exact zh)
     ·(repeat (first | refine zo ?_ | refine yao tok rfl rfl rfl rfl (by first | exact hlim | exact hlim2) rfl rfl rfl rfl rfl ?_))
      refine yar [1, 4, 6] (yaa rfl (yaa rfl (yaa rfl yak))) rfl (by kernel_rfl) ?_
      (repeat (first | refine zo ?_ | refine yao tok rfl rfl rfl rfl (by first | exact hlim | exact hlim2) rfl rfl rfl rfl rfl ?_))
      exact mid (by exact zs) (by exact zh)
    ·(repeat (first | refine zo ?_ | refine yao tok rfl rfl rfl rfl (by first | exact hlim | exact hlim2) rfl rfl rfl rfl rfl ?_))
     refine ybc [1, 3] 3 rfl (by kernel_rfl) (by simp) ⟨⟨_, rfl, ?_⟩, ⟨_, rfl, ?_⟩, trivial⟩
     ·(repeat (first | refine zo ?_ | refine yao tok rfl rfl rfl rfl (by first | exact hlim | exact hlim2) rfl rfl rfl rfl rfl ?_))
      refine yar [3, 4, 6] (yaa rfl (yaa rfl (yaa rfl yak))) rfl (by kernel_rfl) ?_
      (repeat (first | refine zo ?_ | refine yao tok rfl rfl rfl rfl (by first | exact hlim | exact hlim2) rfl rfl rfl rfl rfl ?_))
      exact mid (by exact zs) (by exact zh)
     ·(repeat (first | refine zo ?_ | refine yao tok rfl rfl rfl rfl (by first | exact hlim | exact hlim2) rfl rfl rfl rfl rfl ?_))
      refine yar [1, 4, 6] (yaa rfl (yaa rfl (yaa rfl yak))) rfl (by kernel_rfl) ?_
      (repeat (first | refine zo ?_ | refine yao tok rfl rfl rfl rfl (by first | exact hlim | exact hlim2) rfl rfl rfl rfl rfl ?_))
      exact mid (by exact zs) (by exact zh)
   ·(repeat (first | refine zo ?_ | refine yao tok rfl rfl rfl rfl (by first | exact hlim | exact hlim2) rfl rfl rfl rfl rfl ?_))
    refine ybc [1, 2] 4 rfl (by kernel_rfl) (by simp) ⟨⟨_, rfl, ?_⟩, ⟨_, rfl, ?_⟩, trivial⟩
    ·(repeat (first | refine zo ?_ | refine yao tok rfl rfl rfl rfl (by first | exact hlim | exact hlim2) rfl rfl rfl rfl rfl ?_))
     refine yar [2, 3, 4, 6] (yaa rfl (yaa rfl (yaa rfl (yaa rfl yak)))) rfl (by kernel_rfl) ?_
     (repeat (first | refine zo ?_ | refine yao tok rfl rfl rfl rfl (by first | exact hlim | exact hlim2) rfl rfl rfl rfl rfl ?_))
     exact mid (by exact zs) (by exact zh)
    ·(repeat (first | refine zo ?_ | refine yao tok rfl rfl rfl rfl (by first | exact hlim | exact hlim2) rfl rfl rfl rfl rfl ?_))
     refine ybc [1, 3] 3 rfl (by kernel_rfl) (by simp) ⟨⟨_, rfl, ?_⟩, ⟨_, rfl, ?_⟩, trivial⟩
     ·(repeat (first | refine zo ?_ | refine yao tok rfl rfl rfl rfl (by first | exact hlim | exact hlim2) rfl rfl rfl rfl rfl ?_))
      refine yar [3, 4, 6] (yaa rfl (yaa rfl (yaa rfl yak))) rfl (by kernel_rfl) ?_
      (repeat (first | refine zo ?_ | refine yao tok rfl rfl rfl rfl (by first | exact hlim | exact hlim2) rfl rfl rfl rfl rfl ?_))
      exact mid (by exact zs) (by exact zh)
     ·(repeat (first | refine zo ?_ | refine yao tok rfl rfl rfl rfl (by first | exact hlim | exact hlim2) rfl rfl rfl rfl rfl ?_))
      refine yar [1, 4, 6] (yaa rfl (yaa rfl (yaa rfl yak))) rfl (by kernel_rfl) ?_
      (repeat (first | refine zo ?_ | refine yao tok rfl rfl rfl rfl (by first | exact hlim | exact hlim2) rfl rfl rfl rfl rfl ?_))
      exact mid (by exact zs) (by exact zh)
  ·(repeat (first | refine zo ?_ | refine yao tok rfl rfl rfl rfl (by first | exact hlim | exact hlim2) rfl rfl rfl rfl rfl ?_))
   refine ybc [0, 3, 5] 5 rfl (by kernel_rfl) (by simp) ⟨⟨_, rfl, ?_⟩, ⟨_, rfl, ?_⟩, ⟨_, rfl, ?_⟩, trivial⟩
   ·(repeat (first | refine zo ?_ | refine yao tok rfl rfl rfl rfl (by first | exact hlim | exact hlim2) rfl rfl rfl rfl rfl ?_))
    refine ybc [1, 3, 5] 4 rfl (by kernel_rfl) (by simp) ⟨⟨_, rfl, ?_⟩, ⟨_, rfl, ?_⟩, ⟨_, rfl, ?_⟩, trivial⟩
    ·(repeat (first | refine zo ?_ | refine yao tok rfl rfl rfl rfl (by first | exact hlim | exact hlim2) rfl rfl rfl rfl rfl ?_))
     refine ybc [3, 5] 3 rfl (by kernel_rfl) (by simp) ⟨⟨_, rfl, ?_⟩, ⟨_, rfl, ?_⟩, trivial⟩
     ·(repeat (first | refine zo ?_ | refine yao tok rfl rfl rfl rfl (by first | exact hlim | exact hlim2) rfl rfl rfl rfl rfl ?_))
      refine ybc [4, 5] 2 rfl (by kernel_rfl) (by simp) ⟨⟨_, rfl, ?_⟩, ⟨_, rfl, ?_⟩, trivial⟩
      ·(repeat (first | refine zo ?_ | refine yao tok rfl rfl rfl rfl (by first | exact hlim | exact hlim2) rfl rfl rfl rfl rfl ?_))
       refine yar [5, 6] (yaa rfl (yaa rfl yak)) rfl (by kernel_rfl) ?_
       (repeat (first | refine zo ?_ | refine yao tok rfl rfl rfl rfl (by first | exact hlim | exact hlim2) rfl rfl rfl rfl rfl ?_))
       exact mid (by exact zs) (by exact zh)
      ·(repeat (first | refine zo ?_ | refine yao tok rfl rfl rfl rfl (by first | exact hlim | exact hlim2) rfl rfl rfl rfl rfl ?_))
       refine yar [4, 6] (yaa rfl (yaa rfl yak)) rfl (by kernel_rfl) ?_
       (repeat (first | refine zo ?_ | refine yao tok rfl rfl rfl rfl (by first | exact hlim | exact hlim2) rfl rfl rfl rfl rfl ?_))
       exact mid (by exact zs) (by exact zh)
     ·(repeat (first | refine zo ?_ | refine yao tok rfl rfl rfl rfl (by first | exact hlim | exact hlim2) rfl rfl rfl rfl rfl ?_))
      refine yar [3, 4, 6] (yaa rfl (yaa rfl (yaa rfl yak))) rfl (by kernel_rfl) ?_
      (repeat (first | refine zo ?_ | refine yao tok rfl rfl rfl rfl (by first | exact hlim | exact hlim2) rfl rfl rfl rfl rfl ?_))
      exact mid (by exact zs) (by exact zh)
    ·(repeat (first | refine zo ?_ | refine yao tok rfl rfl rfl rfl (by first | exact hlim | exact hlim2) rfl rfl rfl rfl rfl ?_))
     refine ybc [1, 5] 3 rfl (by kernel_rfl) (by simp) ⟨⟨_, rfl, ?_⟩, ⟨_, rfl, ?_⟩, trivial⟩
     ·(repeat (first | refine zo ?_ | refine yao tok rfl rfl rfl rfl (by first | exact hlim | exact hlim2) rfl rfl rfl rfl rfl ?_))
      refine ybc [4, 5] 2 rfl (by kernel_rfl) (by simp) ⟨⟨_, rfl, ?_⟩, ⟨_, rfl, ?_⟩, trivial⟩
      ·(repeat (first | refine zo ?_ | refine yao tok rfl rfl rfl rfl (by first | exact hlim | exact hlim2) rfl rfl rfl rfl rfl ?_))
       refine yar [5, 6] (yaa rfl (yaa rfl yak)) rfl (by kernel_rfl) ?_
       (repeat (first | refine zo ?_ | refine yao tok rfl rfl rfl rfl (by first | exact hlim | exact hlim2) rfl rfl rfl rfl rfl ?_))
       exact mid (by exact zs) (by exact zh)
      ·(repeat (first | refine zo ?_ | refine yao tok rfl rfl rfl rfl (by first | exact hlim | exact hlim2) rfl rfl rfl rfl rfl ?_))
       refine yar [4, 6] (yaa rfl (yaa rfl yak)) rfl (by kernel_rfl) ?_
       (repeat (first | refine zo ?_ | refine yao tok rfl rfl rfl rfl (by first | exact hlim | exact hlim2) rfl rfl rfl rfl rfl ?_))
       exact mid (by exact zs) (by exact zh)
     ·(repeat (first | refine zo ?_ | refine yao tok rfl rfl rfl rfl (by first | exact hlim | exact hlim2) rfl rfl rfl rfl rfl ?_))
      refine yar [1, 4, 6] (yaa rfl (yaa rfl (yaa rfl yak))) rfl (by kernel_rfl) ?_
      (repeat (first | refine zo ?_ | refine yao tok rfl rfl rfl rfl (by first | exact hlim | exact hlim2) rfl rfl rfl rfl rfl ?_))
      exact mid (by exact zs) (by exact zh)
    ·(repeat (first | refine zo ?_ | refine yao tok rfl rfl rfl rfl (by first | exact hlim | exact hlim2) rfl rfl rfl rfl rfl ?_))
     refine ybc [1, 3] 3 rfl (by kernel_rfl) (by simp) ⟨⟨_, rfl, ?_⟩, ⟨_, rfl, ?_⟩, trivial⟩
     ·(repeat (first | refine zo ?_ | refine yao tok rfl rfl rfl rfl (by first | exact hlim | exact hlim2) rfl rfl rfl rfl rfl ?_))
      refine yar [3, 4, 6] (yaa rfl (yaa rfl (yaa rfl yak))) rfl (by kernel_rfl) ?_
      (repeat (first | refine zo ?_ | refine yao tok rfl rfl rfl rfl (by first | exact hlim | exact hlim2) rfl rfl rfl rfl rfl ?_))
      exact mid (by exact zs) (by exact zh)
     ·(repeat (first | refine zo ?_ | refine yao tok rfl rfl rfl rfl (by first | exact hlim | exact hlim2) rfl rfl rfl rfl rfl ?_))
      refine yar [1, 4, 6] (yaa rfl (yaa rfl (yaa rfl yak))) rfl (by kernel_rfl) ?_
      (repeat (first | refine zo ?_ | refine yao tok rfl rfl rfl rfl (by first | exact hlim | exact hlim2) rfl rfl rfl rfl rfl ?_))
      exact mid (by exact zs) (by exact zh)
   ·(repeat (first | refine zo ?_ | refine yao tok rfl rfl rfl rfl (by first | exact hlim | exact hlim2) rfl rfl rfl rfl rfl ?_))
    refine ybc [0, 5] 4 rfl (by kernel_rfl) (by simp) ⟨⟨_, rfl, ?_⟩, ⟨_, rfl, ?_⟩, trivial⟩
    ·(repeat (first | refine zo ?_ | refine yao tok rfl rfl rfl rfl (by first | exact hlim | exact hlim2) rfl rfl rfl rfl rfl ?_))
     refine ybc [1, 5] 3 rfl (by kernel_rfl) (by simp) ⟨⟨_, rfl, ?_⟩, ⟨_, rfl, ?_⟩, trivial⟩
     ·(repeat (first | refine zo ?_ | refine yao tok rfl rfl rfl rfl (by first | exact hlim | exact hlim2) rfl rfl rfl rfl rfl ?_))
      refine ybc [4, 5] 2 rfl (by kernel_rfl) (by simp) ⟨⟨_, rfl, ?_⟩, ⟨_, rfl, ?_⟩, trivial⟩
      ·(repeat (first | refine zo ?_ | refine yao tok rfl rfl rfl rfl (by first | exact hlim | exact hlim2) rfl rfl rfl rfl rfl ?_))
       refine yar [5, 6] (yaa rfl (yaa rfl yak)) rfl (by kernel_rfl) ?_
       (repeat (first | refine zo ?_ | refine yao tok rfl rfl rfl rfl (by first | exact hlim | exact hlim2) rfl rfl rfl rfl rfl ?_))
       exact mid (by exact zs) (by exact zh)
      ·(repeat (first | refine zo ?_ | refine yao tok rfl rfl rfl rfl (by first | exact hlim | exact hlim2) rfl rfl rfl rfl rfl ?_))
       refine yar [4, 6] (yaa rfl (yaa rfl yak)) rfl (by kernel_rfl) ?_
       (repeat (first | refine zo ?_ | refine yao tok rfl rfl rfl rfl (by first | exact hlim | exact hlim2) rfl rfl rfl rfl rfl ?_))
       exact mid (by exact zs) (by exact zh)
     ·(repeat (first | refine zo ?_ | refine yao tok rfl rfl rfl rfl (by first | exact hlim | exact hlim2) rfl rfl rfl rfl rfl ?_))
      refine yar [1, 4, 6] (yaa rfl (yaa rfl (yaa rfl yak))) rfl (by kernel_rfl) ?_
      (repeat (first | refine zo ?_ | refine yao tok rfl rfl rfl rfl (by first | exact hlim | exact hlim2) rfl rfl rfl rfl rfl ?_))
      exact mid (by exact zs) (by exact zh)
    ·(repeat (first | refine zo ?_ | refine yao tok rfl rfl rfl rfl (by first | exact hlim | exact hlim2) rfl rfl rfl rfl rfl ?_))
     refine yar [0, 1, 4, 6] (yaa rfl (yaa rfl (yaa rfl (yaa rfl yak)))) rfl (by kernel_rfl) ?_
     (repeat (first | refine zo ?_ | refine yao tok rfl rfl rfl rfl (by first | exact hlim | exact hlim2) rfl rfl rfl rfl rfl ?_))
     exact mid (by exact zs) (by exact zh)
   ·(repeat (first | refine zo ?_ | refine yao tok rfl rfl rfl rfl (by first | exact hlim | exact hlim2) rfl rfl rfl rfl rfl ?_))
    refine ybc [0, 3] 4 rfl (by kernel_rfl) (by simp) ⟨⟨_, rfl, ?_⟩, ⟨_, rfl, ?_⟩, trivial⟩
    ·(repeat (first | refine zo ?_ | refine yao tok rfl rfl rfl rfl (by first | exact hlim | exact hlim2) rfl rfl rfl rfl rfl ?_))
     refine ybc [1, 3] 3 rfl (by kernel_rfl) (by simp) ⟨⟨_, rfl, ?_⟩, ⟨_, rfl, ?_⟩, trivial⟩
     ·(repeat (first | refine zo ?_ | refine yao tok rfl rfl rfl rfl (by first | exact hlim | exact hlim2) rfl rfl rfl rfl rfl ?_))
      refine yar [3, 4, 6] (yaa rfl (yaa rfl (yaa rfl yak))) rfl (by kernel_rfl) ?_
      (repeat (first | refine zo ?_ | refine yao tok rfl rfl rfl rfl (by first | exact hlim | exact hlim2) rfl rfl rfl rfl rfl ?_))
      exact mid (by exact zs) (by exact zh)
     ·(repeat (first | refine zo ?_ | refine yao tok rfl rfl rfl rfl (by first | exact hlim | exact hlim2) rfl rfl rfl rfl rfl ?_))
      refine yar [1, 4, 6] (yaa rfl (yaa rfl (yaa rfl yak))) rfl (by kernel_rfl) ?_
      (repeat (first | refine zo ?_ | refine yao tok rfl rfl rfl rfl (by first | exact hlim | exact hlim2) rfl rfl rfl rfl rfl ?_))
      exact mid (by exact zs) (by exact zh)
    ·(repeat (first | refine zo ?_ | refine yao tok rfl rfl rfl rfl (by first | exact hlim | exact hlim2) rfl rfl rfl rfl rfl ?_))
     refine yar [0, 1, 4, 6] (yaa rfl (yaa rfl (yaa rfl (yaa rfl yak)))) rfl (by kernel_rfl) ?_
     (repeat (first | refine zo ?_ | refine yao tok rfl rfl rfl rfl (by first | exact hlim | exact hlim2) rfl rfl rfl rfl rfl ?_))
     exact mid (by exact zs) (by exact zh)
  ·(repeat (first | refine zo ?_ | refine yao tok rfl rfl rfl rfl (by first | exact hlim | exact hlim2) rfl rfl rfl rfl rfl ?_))
   refine ybc [0, 2] 5 rfl (by kernel_rfl) (by simp) ⟨⟨_, rfl, ?_⟩, ⟨_, rfl, ?_⟩, trivial⟩
   ·(repeat (first | refine zo ?_ | refine yao tok rfl rfl rfl rfl (by first | exact hlim | exact hlim2) rfl rfl rfl rfl rfl ?_))
    refine ybc [1, 2] 4 rfl (by kernel_rfl) (by simp) ⟨⟨_, rfl, ?_⟩, ⟨_, rfl, ?_⟩, trivial⟩
    ·(repeat (first | refine zo ?_ | refine yao tok rfl rfl rfl rfl (by first | exact hlim | exact hlim2) rfl rfl rfl rfl rfl ?_))
     refine yar [2, 3, 4, 6] (yaa rfl (yaa rfl (yaa rfl (yaa rfl yak)))) rfl (by kernel_rfl) ?_
     (repeat (first | refine zo ?_ | refine yao tok rfl rfl rfl rfl (by first | exact hlim | exact hlim2) rfl rfl rfl rfl rfl ?_))
     exact mid (by exact zs) (by exact zh)
    ·(repeat (first | refine zo ?_ | refine yao tok rfl rfl rfl rfl (by first | exact hlim | exact hlim2) rfl rfl rfl rfl rfl ?_))
     refine ybc [1, 3] 3 rfl (by kernel_rfl) (by simp) ⟨⟨_, rfl, ?_⟩, ⟨_, rfl, ?_⟩, trivial⟩
     ·(repeat (first | refine zo ?_ | refine yao tok rfl rfl rfl rfl (by first | exact hlim | exact hlim2) rfl rfl rfl rfl rfl ?_))
      refine yar [3, 4, 6] (yaa rfl (yaa rfl (yaa rfl yak))) rfl (by kernel_rfl) ?_
      (repeat (first | refine zo ?_ | refine yao tok rfl rfl rfl rfl (by first | exact hlim | exact hlim2) rfl rfl rfl rfl rfl ?_))
      exact mid (by exact zs) (by exact zh)
     ·(repeat (first | refine zo ?_ | refine yao tok rfl rfl rfl rfl (by first | exact hlim | exact hlim2) rfl rfl rfl rfl rfl ?_))
      refine yar [1, 4, 6] (yaa rfl (yaa rfl (yaa rfl yak))) rfl (by kernel_rfl) ?_
      (repeat (first | refine zo ?_ | refine yao tok rfl rfl rfl rfl (by first | exact hlim | exact hlim2) rfl rfl rfl rfl rfl ?_))
      exact mid (by exact zs) (by exact zh)
   ·(repeat (first | refine zo ?_ | refine yao tok rfl rfl rfl rfl (by first | exact hlim | exact hlim2) rfl rfl rfl rfl rfl ?_))
    refine ybc [0, 3] 4 rfl (by kernel_rfl) (by simp) ⟨⟨_, rfl, ?_⟩, ⟨_, rfl, ?_⟩, trivial⟩
    ·(repeat (first | refine zo ?_ | refine yao tok rfl rfl rfl rfl (by first | exact hlim | exact hlim2) rfl rfl rfl rfl rfl ?_))
     refine ybc [1, 3] 3 rfl (by kernel_rfl) (by simp) ⟨⟨_, rfl, ?_⟩, ⟨_, rfl, ?_⟩, trivial⟩
     ·(repeat (first | refine zo ?_ | refine yao tok rfl rfl rfl rfl (by first | exact hlim | exact hlim2) rfl rfl rfl rfl rfl ?_))
      refine yar [3, 4, 6] (yaa rfl (yaa rfl (yaa rfl yak))) rfl (by kernel_rfl) ?_
      (repeat (first | refine zo ?_ | refine yao tok rfl rfl rfl rfl (by first | exact hlim | exact hlim2) rfl rfl rfl rfl rfl ?_))
      exact mid (by exact zs) (by exact zh)
     ·(repeat (first | refine zo ?_ | refine yao tok rfl rfl rfl rfl (by first | exact hlim | exact hlim2) rfl rfl rfl rfl rfl ?_))
      refine yar [1, 4, 6] (yaa rfl (yaa rfl (yaa rfl yak))) rfl (by kernel_rfl) ?_
      (repeat (first | refine zo ?_ | refine yao tok rfl rfl rfl rfl (by first | exact hlim | exact hlim2) rfl rfl rfl rfl rfl ?_))
      exact mid (by exact zs) (by exact zh)
    ·(repeat (first | refine zo ?_ | refine yao tok rfl rfl rfl rfl (by first | exact hlim | exact hlim2) rfl rfl rfl rfl rfl ?_))
     refine yar [0, 1, 4, 6] (yaa rfl (yaa rfl (yaa rfl (yaa rfl yak)))) rfl (by kernel_rfl) ?_
     (repeat (first | refine zo ?_ | refine yao tok rfl rfl rfl rfl (by first | exact hlim | exact hlim2) rfl rfl rfl rfl rfl ?_))
     exact mid (by exact zs) (by exact zh)
 rw [hz1, hz2]
 (repeat (first | refine zy ?_ | refine L_lenI tok rfl rfl rfl rfl rfl ?_))
 refine yjr (α := Nat) (fun k => [(13, i64 k), (12, i64 n), (3, .lp 3 0), (2, .lp 2 0)]) (fun k => [(6, some (.vec (zmc n k))), (3, some (.cells [.ls 6 1 n, .ls 8 1 n])), (8, some (.vec (List.replicate n yos))), (2, some (.cells (yln zth.zero)))]) (fun k => n - k) (fun k => k ≤ n) 0 (by omega) (by exact zs) (ybq (yal rfl (yal rfl (yal rfl (yal rfl yay))))) ?_
 intro k hk
 (try refine zy ?_)
 refine yag rfl (fun h1 => ?_) (fun h1 => ?_)
 ·simp at h1
  have hil := fidK_len hk
  (repeat (first | refine zy ?_ | refine yav tok rfl rfl rfl rfl (by omega) (by omega) rfl rfl ?_))
  refine yvc tok rfl rfl rfl rfl rfl rfl (by rw [hil]; omega) rfl (congrArg (fun z => yad ((6, some (LObj.vec z)) :: _)) (show _ = zmc n (k + 1) by rw [show ((k : Int).toNat * 1) = k by simp, fidK_next h1])) rfl rfl ?_
  (try refine zy ?_)
  exact zgl (k + 1) (by omega) (by omega) (by exact zs) (ybq (yal rfl (yal rfl (yal rfl (yal rfl yay)))))
 ·simp at h1
  obtain rfl : k = n := by omega
  (try refine zy ?_)
  refine yaf ⟨_, rfl, yob _, ?_⟩
  exact ybq (yal rfl (yal rfl yay))
def ylf (n : Nat) (r : Nat → Nat → Bool) (v k : Nat) : List Lk := ((List.range k).filter fun u => v != u && r (min v u) (max v u)).map fun u : Nat => ((u : Int), (1 : Int))
def zto (n : Nat) (r : Nat → Nat → Bool) : GraphD := ⟨(List.range n).map fun v : Nat => (v : Int), (List.range n).map fun v => ylf n r v n⟩
theorem linkR_len {n : Nat} {r : Nat → Nat → Bool} {v k : Nat} : (ylf n r v k).length ≤ k := by
 unfold ylf
 rw [List.length_map]
 have := List.length_filter_le (fun u => v != u && r (min v u) (max v u)) (List.range k)
 simpa using this
theorem zah {n : Nat} {r : Nat → Nat → Bool} {v k : Nat} : ylf n r v (k + 1) = if (v != k && r (min v k) (max v k)) = true then ylf n r v k ++ [((k : Int), (1 : Int))] else ylf n r v k := by
 unfold ylf
 rw [List.range_succ, List.filter_append, List.map_append]
 simp only [List.filter_cons, List.filter_nil]
 split <;> simp
def rwF (n : Nat) (r : Nat → Nat → Bool) (v k : Nat) : List (List AV) := ((List.range v).map fun u => (ylf n r u n).flatMap yeh) ++ (ylf n r v k).flatMap yeh :: List.replicate (n - v - 1) []
def rwO (n : Nat) (r : Nat → Nat → Bool) (v : Nat) : List (List AV) := ((List.range v).map fun u => (ylf n r u n).flatMap yeh) ++ List.replicate (n - v) []
theorem rwF_zero {n : Nat} {r : Nat → Nat → Bool} {v : Nat} (h : v < n) : rwO n r v = rwF n r v 0 := by
 unfold rwO rwF
 rw [show n - v = (n - v - 1) + 1 by omega, List.replicate_succ]
 rfl
theorem yye {n : Nat} {r : Nat → Nat → Bool} {v : Nat} : ((List.range v).map fun u => (ylf n r u n).flatMap yeh).length = v := by simp
theorem rwF_at {n : Nat} {r : Nat → Nat → Bool} {v k : Nat} : (rwF n r v k)[v]? = some ((ylf n r v k).flatMap yeh) := by
 unfold rwF
 rw [List.getElem?_append_right (by rw [yye]; omega), yye, Nat.sub_self]; rfl
theorem rwF_len {n : Nat} {r : Nat → Nat → Bool} {v k : Nat} (h : v < n) : (rwF n r v k).length = n := by
 unfold rwF
 rw [List.length_append, yye, List.length_cons, List.length_replicate]; omega
theorem rwF_next {n : Nat} {r : Nat → Nat → Bool} {v k : Nat} (h : v < n) : (rwF n r v k).set v ((ylf n r v (k + 1)).flatMap yeh) = rwF n r v (k + 1) := by
 unfold rwF
 rw [List.set_append_right _ _ (by rw [yye]; omega), yye, Nat.sub_self, List.set_cons_zero]
theorem rwF_end {n : Nat} {r : Nat → Nat → Bool} {v : Nat} (h : v < n) : rwF n r v n = rwO n r (v + 1) := by
 unfold rwF rwO
 rw [List.range_succ, List.map_append]
 simp [Nat.sub_sub]
theorem flat_lenF (l : List Lk) : (l.flatMap yeh).length = l.length * 2 := by
 induction l with
 | nil => rfl
 | cons a l ih => simp [List.flatMap_cons, ih, yeh]; omega
theorem mat_part {M sz v : Nat} {rows : List (List AV)} {r : List AV} {m : Nat} (h : rows[v]? = some r) (hm : r.length / sz = m) : (yfz M sz 0 rows ++ [])[v]? = some (.ls (fam M v) sz m) := by
 rw [List.append_nil, yfl, h]
 simp only [Option.map_some, hm, Nat.zero_add]
def zpl (n : Nat) : List (Nat × Option LObj) := [(5, some (.cells [yaq ((List.range n).map fun v : Nat => (v : Int)), .ls 61 1 n])), (4, some (.cells [AV.v (Value.slice none 0 0), AV.v (Value.slice none 0 0)]))]
theorem related_con {f : Nat} {r : Nat → Nat → Bool} (n : Nat) (hn : n ≤ 24) (hf : ∀ a b : Nat, a < n → b < n → Con Tryz.prog f [i64 a, i64 b] (ycp (r a b))) : Con Tryz.prog 168 [i64 n, .fn f []] (yin (zto n r)) := by
 have hids : zmc n n = ((List.range n).map fun v : Nat => (v : Int)).map i64 := by simp [zmc]
 refine yja tok Tryz.func168 rfl rfl Tryz.ntmps168 Tryz.results168 rfl rfl ?_
 (repeat (first | with_reducible refine ycc ?_ | with_reducible refine ybl ?_ | refine ybx ?_)); refine ydl ?_; refine ydj (lf := lfT) rfl ?_
 (try refine zo ?_)
 refine zt ?_; refine ydj (lf := lfT) rfl ?_
 (try refine zo ?_)
 refine znd [(6, 60), (8, 61)] (empty_own n hn) rfl rfl rfl rfl rfl rfl rfl yay rfl rfl rfl rfl rfl rfl ?_
 (try refine zo ?_)
 refine zt ?_
 refine zts (t' := [(5, .lp 5 0), (4, .lp 4 0), (0, i64 n), (1, .fn f [])]) (h' := [(5, some (.cells [.ls 60 1 n, .ls 61 1 n])), (60, some (.vec (zmc n n))), (61, some (.vec (List.replicate n yos))), (4, some (.cells [AV.v (Value.slice none 0 0), AV.v (Value.slice none 0 0)]))]) ?_ (by exact zs) (by exact zh)
 refine ykq 5 0 (((List.range n).map fun v : Nat => (v : Int)).map fun z => [i64 z]) rfl rfl rfl (by simp) (fun row hr => by obtain ⟨y, _, rfl⟩ := List.mem_map.1 hr; rfl) (by rw [hids, ygi]) rfl rfl rfl rfl ?_
 refine zbp 61 (List.replicate n yos) rfl rfl ?_
 refine zts (t' := [(5, .lp 5 0), (4, .lp 4 0), (0, i64 n), (1, .fn f [])]) (h' := zpl n ++ [(61, some (yjq (List.replicate n yos)))]) ?_ (by exact zs) (by exact zh)
 refine zdp (f := zpl n) 61 2 n rfl rfl rfl rfl rfl ?_
 (try refine zy ?_)
 refine yjr (α := Nat) (fun v => [(11, i64 v), (10, i64 n), (5, .lp 5 0), (4, .lp 4 0), (0, i64 n), (1, .fn f [])]) (fun v => zpl n ++ yek 61 2 (rwO n r v) []) (fun v => n - v) (fun v => v ≤ n) 0 (by omega) (by exact zs) (hsE (by simp [rwO])) ?_
 intro v hv
 (try refine zy ?_)
 refine yag rfl (fun h1 => ?_) (fun h1 => ?_)
 ·simp at h1
  (try refine zy ?_)
  refine yjr (α := Nat) (fun u => [(15, i64 u), (14, i64 n), (6, i64 v), (11, i64 v), (10, i64 n), (5, .lp 5 0), (4, .lp 4 0), (0, i64 n), (1, .fn f [])]) (fun u => zpl n ++ yek 61 2 (rwF n r v u) []) (fun u => n - u) (fun u => u ≤ n) 0 (by omega) (by exact zs) (hsE (by rw [rwF_zero h1])) ?_
  intro u hu
  (try refine zy ?_)
  refine yag rfl (fun h2 => ?_) (fun h2 => ?_)
  ·simp at h2
   have hcall := hf (min v u) (max v u) (by omega) (by omega)
   have hsame : (v != u && r (min v u) (max v u)) = false → rwF n r v (u + 1) = rwF n r v u := fun e => by
    unfold rwF; rw [zah, e, if_neg (by simp)]
   (try refine zw ?_)
   refine yau 21 rfl (fun h3 => ?_) (fun h3 => ?_)
   ·have hne : v ≠ u := by
     intro e; subst e; simp at h3
    (repeat (first | refine zw ?_ | refine ynd 25 (y := i64 ((min v u : Nat) : Int)) rfl (ymp (by split <;> omega)) ?_ | refine ynd 28 (y := i64 ((max v u : Nat) : Int)) rfl (ymp (by split <;> omega)) ?_ | refine yac rfl rfl hcall rfl rfl ?_))
    refine yag rfl (fun h4 => ?_) (fun h4 => ?_)
    ·have hnx : ylf n r v (u + 1) = ylf n r v u ++ [((u : Int), (1 : Int))] := by rw [zah, if_pos (by simp [hne, h4])]
     have hll := linkR_len (n := n) (r := r) (v := v) (k := u)
     have hfl := flat_lenF (ylf n r v u)
     have hrow := rwF_at (n := n) (r := r) (v := v) (k := u)
     have hcell := mat_part (M := 61) (sz := 2) hrow (m := (ylf n r v u).length) (by rw [hfl]; omega)
     have hk1 : ((v : Int).toNat * 1) = v := by simp
     have hlr := rwF_len (n := n) (r := r) (k := u) h1
     (try refine zw ?_)
     refine yeb (lf := lf0) zcu rfl ?_
     refine yqb [3, 4, 5, 6, 7, 8, 9, 10] 6 (yaa rfl (yaa rfl (yaa rfl (yaa rfl (yaa rfl (yaa rfl (yaa rfl (yaa rfl yak)))))))) rfl (by kernel_rfl) ?_
     (repeat (first | refine zo ?_ | refine yav tok rfl rfl (yba (f := zpl n) rfl) rfl (by omega) (by omega) rfl rfl ?_ | refine ycn (r := .ls (fam 61 v) 2 (ylf n r v u).length) tok rfl rfl rfl (by rw [yba (f := zpl n) rfl]; exact yqd _) (by rw [hk1]; exact hcell) rfl rfl ?_))
     have hat : yad (zpl n ++ (61, some (yjq ((yfz 61 2 0 (rwF n r v u) ++ []).set v .one))) :: yqg 61 0 ((rwF n r v u).set v ((ylf n r v u).flatMap yeh ++ [[i64 u, i64 1]].flatten))) 61 = some (yjq ((yfz 61 2 0 (rwF n r v u) ++ []).set v .one)) := by rw [ybi _ _ (ymb rfl), yah]
     refine zbr tok ypg [(0, 31, .lp 5 (0 + 1)), (1, 32, .ls 61 1 n), (2, 33, i64 v)] 11 42 [38] (.ls (fam 61 v) 2 ((ylf n r v u).length + 1)) (req := [(5, .lp 5 0), (6, i64 v)]) 2 rfl (by kernel_rfl) rfl rfl rfl (by kernel_rfl) (by kernel_rfl) rfl ⟨⟨rfl, rfl, rfl⟩, ⟨rfl, rfl, rfl⟩, trivial⟩ rfl
      ⟨⟨_, [(5, .lp 5 0), (6, i64 v)], rfl, rfl, rfl, by kernel_rfl, by kernel_rfl, by kernel_rfl, by kernel_rfl, rfl, rfl, rfl⟩, ⟨_, [(31, .lp 5 (0 + 1)), (5, .lp 5 0), (6, i64 v)], rfl, rfl, rfl, by kernel_rfl, by kernel_rfl, by kernel_rfl, by kernel_rfl, rfl, rfl, rfl⟩, ⟨_, [(5, .lp 5 0), (6, i64 v)], rfl, rfl, rfl, by kernel_rfl, by kernel_rfl, by kernel_rfl, by kernel_rfl, rfl, rfl, rfl⟩, trivial⟩ rfl rfl rfl
      (fun t ht hl => yug (s := ⟨t, _⟩) (t' := yjp [38] t) (i := v) (news := [[i64 u, i64 1]]) (f := zpl n) tok (fun x y h => (zkc hl h).imp (fun e => e) fun e => ⟨e.1, ypg.ment (ygc _ _) e.2⟩) (fun x y h => zfg h) rfl rfl rfl (ht 38 _ rfl) hrow hfl (ht 41 _ rfl) (by intro c hc; simp at hc; rcases hc with rfl | rfl <;> rfl) (by constructor <;> simp <;> omega) rfl rfl rfl rfl rfl rfl) ?_
     refine yar [12, 13] (yaa rfl (yaa rfl yak)) rfl (by kernel_rfl) ?_
     refine yav tok rfl rfl hat rfl (by omega) (by omega) rfl rfl ?_
     refine yvd tok rfl rfl rfl rfl rfl hat (by rw [List.length_set, List.append_nil, yev, hlr]; omega) rfl rfl ?_
     refine zsi (h' := zpl n ++ yek 61 2 (rwF n r v (u + 1)) []) ?_ ?_
     ·rw [hk1]
      refine (zkb (f := zpl n) rfl (by omega) rfl (by rw [hlr]; exact h1) (by rw [List.length_append, hfl]; simp)).trans ?_
      rw [← rwF_next h1, hnx, List.flatMap_append]
      rfl
     (try refine zy ?_)
     exact zgl (u + 1) (by omega) (by omega) (by exact zs) (fun _ _ h => h)
    ·(try refine zy ?_)
     exact zgl (u + 1) (by omega) (by omega) (by exact zs) (hsE (by rw [hsame (by rw [show r (min v u) (max v u) = false from h4]; simp)]))
   ·(try refine zy ?_)
    exact zgl (u + 1) (by omega) (by omega) (by exact zs) (hsE (by rw [hsame (by
     have : v = u := by
      have : (v : Int) = u := by simpa using h3
      omega
     subst this; simp)]))
  ·simp at h2
   obtain rfl : u = n := by omega
   (try refine zy ?_)
   exact zgl (v + 1) (by omega) (by omega) (by exact zs) (hsE (by rw [rwF_end h1]))
 ·simp at h1
  obtain rfl : v = n := by omega
  (try refine zy ?_)
  refine yaf ?_; refine ⟨_, rfl, ?_⟩
  refine Frz.aggL rfl rfl fun i x y hx hy => ?_
  have hi := (List.getElem?_eq_some_iff.1 hx).1
  have : i = 0 ∨ i = 1 := by simp at hi; omega
  rcases this with rfl | rfl
  ·cases hx; cases hy; exact Frz.pure
  ·cases hx
   simp only [zto, List.getElem?_cons_succ, List.getElem?_cons_zero, Option.some.injEq] at hy
   subst hy
   have := Frz.mat (f := (4, some (.cells [yaq ((List.range v).map fun u : Nat => (u : Int)), .ls 61 1 v])) :: zpl v) (M := 61) (sz := 2) (rows := rwO v r v) (els := (zto v r).ports.map fun ls => ls.map yeh) rfl rfl rfl (by omega) (by intro e he x hx; obtain ⟨q, _, rfl⟩ := List.mem_map.1 he; obtain ⟨z, _, rfl⟩ := List.mem_map.1 hx; rfl) (n := v) (by simp [zto]) (by
    simp only [rwO, zto, Nat.sub_self, List.replicate_zero, List.append_nil, List.map_map]
    exact List.map_congr_left fun u _ => List.flatMap_def)
   rw [List.map_map] at this
   exact this
theorem path1_con (a b : Nat) (h : a < 30 ∧ b < 30) : Con Tryz.prog 100 [i64 a, i64 b] (ycp (a + 1 == b)) := by
 refine yan Tryz.func100 rfl rfl Tryz.ntmps100 Tryz.results100 rfl rfl ?_
 (try refine zy ?_)
 refine yaf ?_; refine ⟨_, rfl, ?_⟩
 exact yai (by rw [Bool.eq_iff_iff, beq_iff_eq, beq_iff_eq]; omega)
def zmj (n : Nat) : GraphD := zto n fun a b => a + 1 == b
theorem path_con (n : Nat) (hn : 1 ≤ n ∧ n ≤ 24) : Con Tryz.prog 48 [i64 n] (.tup [yin (zmj n), i64 0]) := by
 have hr := related_con (f := 100) (r := fun a b => a + 1 == b) n hn.2 fun a b ha hb => path1_con a b (by omega)
 have ho : Con Tryz.prog 99 [i64 n, .fn 100 []] (.tup [yin (zmj n), i64 0]) := by
  refine yja tok Tryz.func99 rfl rfl Tryz.ntmps99 Tryz.results99 rfl rfl ?_
  (try refine zy ?_)
  refine yau 8 rfl (fun h1 => ?_) (fun h1 => ?_)
  ·simp at h1; omega
  (try refine zy ?_)
  refine yag rfl (fun h2 => ?_) (fun h2 => ?_)
  ·simp at h2; omega
  (repeat (first | refine zy ?_ | refine yac rfl rfl hr rfl rfl ?_))
  refine yaf ?_; refine ⟨_, rfl, ?_⟩
  exact Frz.pure
 refine yja tok Tryz.func48 rfl rfl Tryz.ntmps48 Tryz.results48 rfl rfl ?_
 (repeat (first | refine zy ?_ | refine yac rfl rfl ho rfl rfl ?_))
 refine yaf ?_; refine ⟨_, rfl, ?_⟩
 exact Frz.pure
end
section
open Go.RowKit
variable {P : Program} {T : Nat → Option Ty} {N : Nat} {ops : Array Oper} {lf : Oper → Bool} {Q : SS → Prop} {t : List (Nat × AV)} {h : List (Nat × Option LObj)} {rest : List Oper} {d : Nat} {op : Op} {ty : TypeId} {pos : String} {af : Array Edge} {gd : Option (Nat × Bool)} {r : AV}
theorem zlo (B C : BitVec 32) : IntKind.u32.wrap ((B.toNat : Int) - C.toNat) = ((B - C).toNat : Int) := by
 have := B.isLt
 have := C.isLt
 rw [BitVec.toNat_sub]
 simp only [IntKind.wrap, IntKind.signed, IntKind.bits, Bool.false_and, if_false, Bool.false_eq_true]
 omega
theorem negU_val (B : BitVec 32) : IntKind.u32.wrap (0 - (B.toNat : Int)) = ((-B).toNat : Int) := by
 have := B.isLt
 rw [BitVec.toNat_neg]
 simp only [IntKind.wrap, IntKind.signed, IntKind.bits, Bool.false_and, if_false, Bool.false_eq_true]
 omega
theorem zhm (hT : TOK P T) {z : Int} {X : BitVec 32} (hr : yqu T t h op ty = some (.v (.int .u32 (IntKind.u32.wrap z)))) (hz : IntKind.u32.wrap z = (X.toNat : Int)) (hw : yaj ops (look t) ⟨some d, op, ty, pos, af, gd⟩ = some true) (hd : Nat.blt d N = true) (k : Lex P N ops lf Q rest (S ((d, ycm X) :: t) h)) : Lex P N ops lf Q (⟨some d, op, ty, pos, af, gd⟩ :: rest) (S t h) := by
 rw [hz] at hr
 exact zdq hT hr hw hd k
theorem zdt (hT : TOK P T) {x y : Operand} {B C : BitVec 32} {tx ty' : TypeId} (hx : evF (look t) x = some (ycm B)) (hy : evF (look t) y = some (ycm C)) (hr : yqu T t h (.binOp .sub tx x y ty') ty = some (.v (.int .u32 (IntKind.u32.wrap ((B.toNat : Int) - C.toNat)))))
  (hw : yaj ops (look t) ⟨some d, .binOp .sub tx x y ty', ty, pos, af, gd⟩ = some true) (hd : Nat.blt d N = true) (k : Lex P N ops lf Q rest (S ((d, ycm (B - C)) :: t) h)) : Lex P N ops lf Q (⟨some d, .binOp .sub tx x y ty', ty, pos, af, gd⟩ :: rest) (S t h) :=
 zhm hT hr (zlo B C) hw hd k
theorem zds (hT : TOK P T) {x y : Operand} {B : BitVec 32} {tx ty' : TypeId} (hx : evF (look t) x = some (ycm B)) (hy : evF (look t) y = some (.v (.int .u32 1))) (hr : yqu T t h (.binOp .sub tx x y ty') ty = some (.v (.int .u32 (IntKind.u32.wrap ((B.toNat : Int) - 1)))))
  (hw : yaj ops (look t) ⟨some d, .binOp .sub tx x y ty', ty, pos, af, gd⟩ = some true) (hd : Nat.blt d N = true) (k : Lex P N ops lf Q rest (S ((d, ycm (B - 1#32)) :: t) h)) : Lex P N ops lf Q (⟨some d, .binOp .sub tx x y ty', ty, pos, af, gd⟩ :: rest) (S t h) :=
 zhm hT hr (zlo B 1#32) hw hd k
theorem zdr (hT : TOK P T) {x : Operand} {B : BitVec 32} {tx : TypeId} (hx : evF (look t) x = some (ycm B)) (hr : yqu T t h (.unOp .neg tx x) ty = some (.v (.int .u32 (IntKind.u32.wrap (0 - (B.toNat : Int))))))
  (hw : yaj ops (look t) ⟨some d, .unOp .neg tx x, ty, pos, af, gd⟩ = some true) (hd : Nat.blt d N = true) (k : Lex P N ops lf Q rest (S ((d, ycm (-B)) :: t) h)) : Lex P N ops lf Q (⟨some d, .unOp .neg tx x, ty, pos, af, gd⟩ :: rest) (S t h) :=
 zhm hT hr (negU_val B) hw hd k
def zsm (n : Nat) : BitVec 32 := (1#32 <<< n) - 1#32
theorem allV_bit : ∀ (n : Nat), n ≤ 24 → ∀ i, i < 32 → (zsm n).getLsbD i = decide (i < n) := by decide +kernel
end
section
open Go.RowKit
def you (f : Nat → Bool) (n : Nat) : Nat := ((List.range n).filter f).length
def zqj (B : BitVec 32) : Nat := you B.getLsbD 32
theorem yrw (f : Nat → Bool) (m : Nat) : ∀ n, you f (m + n) = you f m + you (fun i => f (m + i)) n
 | 0 => by simp [you]
 | n + 1 => by
  have ih := yrw f m n
  unfold you at *
  rw [show m + (n + 1) = (m + n) + 1 by omega, List.range_succ, List.filter_append, List.length_append, ih, List.range_succ, List.filter_append, List.length_append]
  simp only [List.filter_cons, List.filter_nil]
  cases f (m + n) <;> simp <;> omega
theorem yiq {f g : Nat → Bool} {n : Nat} (h : ∀ i, i < n → f i = g i) : you f n = you g n := by
 unfold you
 congr 1
 exact List.filter_congr fun i hi => h i (List.mem_range.1 hi)
theorem zpd (f : Nat → Bool) (n : Nat) : you f n ≤ n := by
 unfold you
 have := List.length_filter_le f (List.range n)
 simpa using this
def yzc (x : Nat) : Nat := you x.testBit 8
def yqv : ByteArray := ⟨((List.range 256).map fun n => UInt8.ofNat (yzc n)).toArray⟩
theorem yoz {n : Nat} (h : n < 256) : yqv[n]? = some (UInt8.ofNat (yzc n)) := by
 have hs : n < yqv.size := by
  show n < (((List.range 256).map fun n => UInt8.ofNat (yzc n)).toArray).size
  simpa using h
 rw [getElem?_pos yqv n hs]
 show some ((((List.range 256).map fun n => UInt8.ofNat (yzc n)).toArray)[n]'(by simpa using h)) = _
 simp
theorem pop_split (B : BitVec 32) : zqj B = yzc (B >>> 24).toNat + yzc ((B >>> 16) &&& 255#32).toNat + yzc ((B >>> 8) &&& 255#32).toNat + yzc (B &&& 255#32).toNat := by
 have h255 : ∀ i, i < 8 → (255#32).getLsbD i = true := by decide
 have e1 : yzc (B >>> 24).toNat = you (fun i => B.getLsbD (24 + i)) 8 := yiq fun i hi => by
  show (B >>> 24).getLsbD i = _
  rw [BitVec.getLsbD_ushiftRight]
 have e2 : yzc ((B >>> 16) &&& 255#32).toNat = you (fun i => B.getLsbD (16 + i)) 8 := yiq fun i hi => by
  show ((B >>> 16) &&& 255#32).getLsbD i = _
  rw [BitVec.getLsbD_and, BitVec.getLsbD_ushiftRight, h255 i hi, Bool.and_true]
 have e3 : yzc ((B >>> 8) &&& 255#32).toNat = you (fun i => B.getLsbD (8 + i)) 8 := yiq fun i hi => by
  show ((B >>> 8) &&& 255#32).getLsbD i = _
  rw [BitVec.getLsbD_and, BitVec.getLsbD_ushiftRight, h255 i hi, Bool.and_true]
 have e4 : yzc (B &&& 255#32).toNat = you B.getLsbD 8 := yiq fun i hi => by
  show (B &&& 255#32).getLsbD i = _
  rw [BitVec.getLsbD_and, h255 i hi, Bool.and_true]
 have s1 : you B.getLsbD 32 = you B.getLsbD 8 + you (fun i => B.getLsbD (8 + i)) 24 := yrw B.getLsbD 8 24
 have s2 : you (fun i => B.getLsbD (8 + i)) 24 = you (fun i => B.getLsbD (8 + i)) 8 + you (fun i => B.getLsbD (8 + (8 + i))) 16 := yrw (fun i => B.getLsbD (8 + i)) 8 16
 have s3 : you (fun i => B.getLsbD (8 + (8 + i))) 16 = you (fun i => B.getLsbD (8 + (8 + i))) 8 + you (fun i => B.getLsbD (8 + (8 + (8 + i)))) 8 := yrw (fun i => B.getLsbD (8 + (8 + i))) 8 8
 have f1 : you (fun i => B.getLsbD (8 + (8 + i))) 8 = you (fun i => B.getLsbD (16 + i)) 8 := yiq fun i _ => by congr 1; omega
 have f2 : you (fun i => B.getLsbD (8 + (8 + (8 + i)))) 8 = you (fun i => B.getLsbD (24 + i)) 8 := yiq fun i _ => by congr 1; omega
 rw [e1, e2, e3, e4]
 show you B.getLsbD 32 = _
 omega
theorem zcx (n : Nat) : yzc n ≤ 8 := zpd _ _
theorem zni (B : BitVec 32) : (B &&& 255#32).toNat < 256 := by
 rw [BitVec.toNat_and]
 exact Nat.lt_of_le_of_lt Nat.and_le_right (by decide)
theorem shr24 (B : BitVec 32) : (B >>> 24).toNat < 256 := by
 rw [BitVec.toNat_ushiftRight, Nat.shiftRight_eq_div_pow]
 have := B.isLt
 omega
theorem zlv {n : Nat} (h : n ≤ 8) : ((UInt8.ofNat n).toNat : Int) = n := by
 rw [UInt8.toNat_ofNat']
 omega
theorem ones_con (B : BitVec 32) : Con Tryz.prog 127 [ycm B] (i64 (zqj B)) := by
 have p1 := zcx (B >>> 24).toNat
 have p2 := zcx ((B >>> 16) &&& 255#32).toNat
 have p3 := zcx ((B >>> 8) &&& 255#32).toNat
 have p4 := zcx (B &&& 255#32).toNat
 refine yan Tryz.func127 rfl rfl Tryz.ntmps127 Tryz.results127 rfl rfl ?_
 (repeat (first | refine ykr rfl rfl (by omega) rfl rfl ?_ | refine yig (C := 255#32) rfl rfl rfl rfl ?_ | refine yvb (s := yqv) (b := UInt8.ofNat (yzc (B >>> 24).toNat)) tok rfl (by kernel_rfl) rfl (by omega) (yoz (shr24 B)) rfl rfl (ynd 5 (y := .v (.int .u8 (yzc (B >>> 24).toNat))) rfl (by rw [zlv p1]) ?_) | refine yvb (s := yqv) (b := UInt8.ofNat (yzc ((B >>> 16) &&& 255#32).toNat)) tok rfl (by kernel_rfl) rfl (by omega) (yoz (zni _)) rfl rfl (ynd 9 (y := .v (.int .u8 (yzc ((B >>> 16) &&& 255#32).toNat))) rfl (by rw [zlv p2]) ?_) | refine yvb (s := yqv) (b := UInt8.ofNat (yzc ((B >>> 8) &&& 255#32).toNat)) tok rfl (by kernel_rfl) rfl (by omega) (yoz (zni _)) rfl rfl (ynd 14 (y := .v (.int .u8 (yzc ((B >>> 8) &&& 255#32).toNat))) rfl (by rw [zlv p3]) ?_) | refine yvb (s := yqv) (b := UInt8.ofNat (yzc (B &&& 255#32).toNat)) tok rfl (by kernel_rfl) rfl (by omega) (yoz (zni _)) rfl rfl (ynd 18 (y := .v (.int .u8 (yzc (B &&& 255#32).toNat))) rfl (by rw [zlv p4]) ?_) | refine L_u8 tok rfl (by constructor <;> omega) rfl rfl ?_ | refine zI ?_ | refine zL ?_ | refine zC ?_ | refine ydw ?_ | refine ydl ?_ | refine zR ?_ | refine zD ?_ | refine zK ?_ | refine zB ?_ | refine zA ?_ | refine zS ?_ | refine zU ?_ | refine zV ?_ | refine zF ?_ | with_reducible refine ybl ?_ | with_reducible refine ycc ?_ | refine ybr ?_ | refine ybx ?_ | refine yco ?_ | refine zT ?_ | refine zE ?_ | refine zX ?_ | fail))
 refine yaf ?_; refine ⟨_, rfl, ?_⟩
 exact yae (by rw [pop_split]; omega)
end
section
open Go.RowKit
structure CntD where
 steps : Int
 moves : Int
 rounds : Int
 begun : Int
 pend : BitVec 32
def zqo : BitVec 32 := 16777215#32
def yra (k : CntD) : List AV := [i64 k.steps, i64 k.moves, i64 k.rounds, i64 k.begun, ycm k.pend]
def ymn (e : BitVec 32) : CntD := ⟨0, 0, 0, 0, e &&& zqo⟩
def zqe (k : CntD) (ch af : BitVec 32) : CntD :=
 if k.pend &&& ~~~ch &&& af = 0#32 then ⟨k.steps + 1, k.moves + zqj ch, k.rounds + 1, k.rounds + 1, af⟩ else ⟨k.steps + 1, k.moves + zqj ch, k.rounds, k.rounds + 1, k.pend &&& ~~~ch &&& af⟩
def InM (B : BitVec 32) : Prop := B &&& ~~~zqo = 0#32
structure CntOk (k : CntD) : Prop where
 s0 : 0 ≤ k.steps
 s1 : k.steps ≤ 4096
 r0 : 0 ≤ k.rounds
 r1 : k.rounds ≤ k.begun
 b1 : k.begun ≤ k.steps
 b2 : k.begun ≤ k.rounds + 1
 m0 : k.steps ≤ k.moves
 m1 : k.moves ≤ 24 * k.steps
 pend : InM k.pend
theorem zhy {B : BitVec 32} (h : InM B) {i : Nat} (hi : 24 ≤ i) : B.getLsbD i = false := by
 rcases Nat.lt_or_ge i 32 with h9 | h9
 ·have := congrArg (fun X => BitVec.getLsbD X i) h
  simp only [BitVec.getLsbD_and, BitVec.getLsbD_not, BitVec.getLsbD_zero] at this
  have e : zqo.getLsbD i = false := by
   have : ∀ j : Fin 8, zqo.getLsbD (24 + j.val) = false := by decide
   have := this ⟨i - 24, by omega⟩
   rwa [show 24 + (i - 24) = i by omega] at this
  rw [e] at this
  simpa [h9] using this
 ·exact BitVec.getLsbD_of_ge _ _ h9
theorem zke {B : BitVec 32} (h : ∀ i, 24 ≤ i → B.getLsbD i = false) : InM B := by
 apply BitVec.eq_of_getLsbD_eq
 intro i hi
 rw [BitVec.getLsbD_and, BitVec.getLsbD_not, BitVec.getLsbD_zero]
 rcases Nat.lt_or_ge i 24 with h9 | h9
 ·have : ∀ j : Fin 24, zqo.getLsbD j.val = true := by decide
  rw [this ⟨i, h9⟩]; simp
 ·rw [h i h9]; simp
theorem zuh {B : BitVec 32} (h : InM B) : zqj B ≤ 24 := by
 have e : zqj B = you B.getLsbD 24 + you (fun i => B.getLsbD (24 + i)) 8 := yrw _ 24 8
 have e2 : you (fun i => B.getLsbD (24 + i)) 8 = 0 := by
  unfold you
  rw [List.filter_eq_nil_iff.2 (fun i _ => by simp [zhy h (show 24 ≤ 24 + i by omega)])]
  rfl
 have := zpd B.getLsbD 24
 omega
theorem zpe {B : BitVec 32} (h : B ≠ 0#32) : 1 ≤ zqj B := by
 rcases Nat.eq_zero_or_pos (zqj B) with h0 | h0
 ·exfalso
  refine h (BitVec.eq_of_getLsbD_eq fun i hi => ?_)
  rw [BitVec.getLsbD_zero]
  have := List.filter_eq_nil_iff.1 (List.eq_nil_of_length_eq_zero h0) i (List.mem_range.2 hi)
  simpa using this
 ·exact h0
theorem add_ok {k : CntD} (h : CntOk k) (h4 : k.steps < 4096) {ch af : BitVec 32} (hc : ch ≠ 0#32) (h1 : InM ch) (h2 : InM af) : CntOk (zqe k ch af) := by
 have p1 := zpe hc
 have p2 := zuh h1
 obtain ⟨a1, a2, a3, a4, a5, a6, a7, a8, a9⟩ := h
 unfold zqe
 split
 ·exact ⟨by simp only; omega, by simp only; omega, by simp only; omega, by simp only; omega, by simp only; omega, by simp only; omega, by simp only; omega, by simp only; omega, h2⟩
 ·refine ⟨by simp only; omega, by simp only; omega, by simp only; omega, by simp only; omega, by simp only; omega, by simp only; omega, by simp only; omega, by simp only; omega, zke fun i hi => ?_⟩
  rw [BitVec.getLsbD_and, BitVec.getLsbD_and, zhy a9 hi]; simp
theorem begin_ok {e : BitVec 32} : CntOk (ymn e) := ⟨by simp [ymn], by simp [ymn], by simp [ymn], by simp [ymn], by simp [ymn], by simp [ymn], by simp [ymn], by simp [ymn], zke fun i hi => by
 simp only [ymn]
 rw [BitVec.getLsbD_and, zhy (B := zqo) (by unfold InM zqo; decide) hi, Bool.and_false]⟩
theorem begin_con (e : BitVec 32) : Con Tryz.prog 169 [ycm e] (.agg (yra (ymn e))) := by
 refine yja tok Tryz.func169 rfl rfl Tryz.ntmps169 Tryz.results169 rfl rfl ?_
 (repeat (first | refine yig (C := zqo) rfl rfl rfl rfl ?_ | refine zI ?_ | refine zL ?_ | refine zC ?_ | refine ydw ?_ | refine ydl ?_ | refine zR ?_ | refine zD ?_ | refine zK ?_ | refine zB ?_ | refine zA ?_ | refine zS ?_ | refine zU ?_ | refine zV ?_ | refine zF ?_ | with_reducible refine ybl ?_ | with_reducible refine ycc ?_ | refine ybr ?_ | refine ybx ?_ | refine yco ?_ | refine zT ?_ | refine zE ?_ | refine zX ?_ | fail))
 refine yaf ?_; refine ⟨_, rfl, ?_⟩
 exact Frz.pure
def zqb (l : List (BitVec 32)) : AV := .sl 1 (l.map fun B => [ycm B])
theorem yup (l : List (BitVec 32)) (hl : l.length ≤ 1000) (h : ∀ B ∈ l, InM B) : Con Tryz.prog 224 [zqb l] (ycp true) := by
 refine yan Tryz.func224 rfl rfl Tryz.ntmps224 Tryz.results224 rfl rfl ?_
 (try refine zy ?_)
 refine ycy (α := Nat) (fun k => [(7, i64 k), (6, i64 l.length), (5, zqb l)]) (fun k => []) (fun k => l.length - k) (fun k => k ≤ l.length) 0 (by omega) (by exact zs) yay ?_
 intro k hk
 (try refine zy ?_)
 refine yag rfl (fun h1 => ?_) (fun h1 => ?_)
 ·simp at h1
  obtain ⟨B, hB⟩ := ycz h1
  have hm := h B (List.mem_of_getElem? hB)
  (repeat (first | refine ybo (C := zqo) rfl rfl rfl rfl ?_ | refine zI ?_ | refine zL ?_ | refine zC ?_ | refine ydw ?_ | refine ydl ?_ | refine zR ?_ | refine zD ?_ | refine zK ?_ | refine zB ?_ | refine zA ?_ | refine zS ?_ | refine zU ?_ | refine zV ?_ | refine zF ?_ | with_reducible refine ybl ?_ | with_reducible refine ycc ?_ | refine ybr ?_ | refine ybx ?_ | refine yco ?_ | refine zT ?_ | refine zE ?_ | refine zX ?_ | fail))
  refine yag rfl (fun h2 => ?_) (fun h2 => ?_)
  ·rw [ypb, hm] at h2; simp at h2
  (try refine zy ?_)
  exact rnd (k + 1) (by omega) (by omega) (by exact zs) yay
 ·simp at h1
  obtain rfl : k = l.length := by omega
  (try refine zy ?_)
  refine yaf ?_; refine ⟨_, rfl, ?_⟩
  exact Frz.pure
theorem avalid_con (k : CntD) (h : CntOk k) : Con Tryz.prog 223 [.agg (yra k)] (ycp true) := by
 obtain ⟨a1, a2, a3, a4, a5, a6, a7, a8, a9⟩ := h
 have hp := yup [k.pend] (by simp) (by simp [a9])
 refine yan Tryz.func223 rfl rfl Tryz.ntmps223 Tryz.results223 rfl rfl ?_
 (try refine zy ?_)
 refine yau 6 rfl (fun h1 => ?_) (fun h1 => ?_)
 ·simp at h1; omega
 (try refine zy ?_)
 refine yau 11 rfl (fun h2 => ?_) (fun h2 => ?_)
 ·simp at h2; omega
 (try refine zy ?_)
 refine yau 16 rfl (fun h3 => ?_) (fun h3 => ?_)
 ·simp at h3; omega
 (try refine zy ?_)
 refine yau 23 rfl (fun h4 => ?_) (fun h4 => ?_)
 ·simp at h4; omega
 (try refine zy ?_)
 refine yag rfl (fun h5 => ?_) (fun h5 => ?_)
 ·simp at h5; omega
 (try refine zy ?_)
 refine yag rfl (fun h6 => ?_) (fun h6 => ?_)
 ·simp at h6; omega
 (try refine zy ?_)
 refine yau 41 rfl (fun h7 => ?_) (fun h7 => ?_)
 ·(try refine zy ?_)
  refine yau 49 rfl (fun h8 => ?_) (fun h8 => ?_)
  ·(repeat (first | refine zy ?_ | refine yac rfl rfl hp rfl rfl ?_))
   refine yaf ?_; refine ⟨_, rfl, ?_⟩
   exact Frz.pure
  ·simp at h8; omega
 ·simp at h7; omega
theorem add_con (k : CntD) (h : CntOk k) (h4 : k.steps < 4096) {ch af : BitVec 32} (hc : ch ≠ 0#32) (h1 : InM ch) (h2 : InM af) : Con Tryz.prog 171 [.agg (yra k), ycm ch, ycm af] (.tup [.agg (yra (zqe k ch af)), i64 0]) := by
 have hv := avalid_con k h
 have hp := yup [ch, af] (by simp) (by simp [h1, h2])
 have p1 := zpe hc
 have p2 := zuh h1
 obtain ⟨a1, a2, a3, a4, a5, a6, a7, a8, a9⟩ := h
 refine yja tok Tryz.func171 rfl rfl Tryz.ntmps171 Tryz.results171 rfl rfl ?_
 (repeat (first | refine zy ?_ | refine yac rfl rfl hv rfl rfl ?_))
 refine yau 14 rfl (fun q1 => ?_) (fun q1 => ?_)
 ·rw [ygv] at q1; exact absurd (by simpa using q1) hc
 (repeat (first | refine zy ?_ | refine yac rfl rfl hp rfl rfl ?_))
 refine yag rfl (fun q2 => ?_) (fun q2 => ?_)
 ·simp at q2; omega
 (repeat (first | refine yid tok rfl (by constructor <;> omega) rfl rfl ?_ | refine yel rfl rfl (by omega) rfl rfl ?_ | refine ykr rfl rfl (by omega) rfl rfl ?_ | refine yic rfl rfl rfl rfl ?_ | refine yig rfl rfl rfl rfl ?_ | refine ymi rfl rfl rfl rfl ?_ | refine ybo rfl rfl rfl rfl ?_ | refine zI ?_ | refine zL ?_ | refine zC ?_ | refine ydw ?_ | refine ydl ?_ | refine zR ?_ | refine zD ?_ | refine zK ?_ | refine zB ?_ | refine zA ?_ | refine zS ?_ | refine zU ?_ | refine zV ?_ | refine zF ?_ | refine zN ?_ | with_reducible refine ybl ?_ | with_reducible refine ycc ?_ | refine ybr ?_ | refine ybx ?_ | refine yco ?_ | refine zT ?_ | refine zE ?_ | refine zX ?_ | refine yac rfl rfl (ones_con ch) rfl rfl ?_))
 refine yag rfl (fun q3 => ?_) (fun q3 => ?_)
 ·rw [ygv] at q3
  have e : zqe k ch af = ⟨k.steps + 1, k.moves + zqj ch, k.rounds + 1, k.rounds + 1, af⟩ := by unfold zqe; rw [if_pos (by simpa using q3)]
  rw [e]
  (try refine zy ?_)
  refine yaf ?_; refine ⟨_, rfl, ?_⟩
  exact Frz.pure
 ·rw [ygv] at q3
  have e : zqe k ch af = ⟨k.steps + 1, k.moves + zqj ch, k.rounds, k.rounds + 1, k.pend &&& ~~~ch &&& af⟩ := by unfold zqe; rw [if_neg (by simpa using q3)]
  rw [e]
  (try refine zy ?_)
  refine yaf ?_; refine ⟨_, rfl, ?_⟩
  exact Frz.pure
end
section
open Go.RowKit
def zqh (ls : List Lk) : BitVec 32 := ls.foldl (fun B l => B ||| (1#32 <<< l.1.toNat)) 0#32
def zkq (g : GraphD) : List (BitVec 32) := g.ports.map zqh
def zox (g : GraphD) : AV := zqb (zkq g)
def zmh (g : GraphD) (k : Nat) (B : BitVec 32) : List (BitVec 32) := (zkq g).take k ++ B :: List.replicate (g.ports.length - k - 1) 0#32
def zqv (g : GraphD) (k : Nat) : List (BitVec 32) := (zkq g).take k ++ List.replicate (g.ports.length - k) 0#32
theorem zkr {g : GraphD} : (zkq g).length = g.ports.length := by simp [zkq]
theorem netK_zero {g : GraphD} {k : Nat} (h : k < g.ports.length) : zqv g k = zmh g k 0#32 := by
 unfold zqv zmh
 rw [show g.ports.length - k = (g.ports.length - k - 1) + 1 by omega, List.replicate_succ]
 simp
theorem yrr {g : GraphD} {k : Nat} (h : k < g.ports.length) : ((zkq g).take k).length = k := by simp [zkq]; omega
theorem netK_at {g : GraphD} {k : Nat} {B : BitVec 32} (h : k < g.ports.length) : (zmh g k B)[k]? = some B := by
 unfold zmh
 rw [List.getElem?_append_right (by rw [yrr h]; omega), yrr h, Nat.sub_self]; rfl
theorem netK_len {g : GraphD} {k : Nat} {B : BitVec 32} (h : k < g.ports.length) : (zmh g k B).length = g.ports.length := by
 unfold zmh
 rw [List.length_append, yrr h, List.length_cons, List.length_replicate]; omega
theorem netK_set {g : GraphD} {k : Nat} {B C : BitVec 32} (h : k < g.ports.length) : (zmh g k B).set k C = zmh g k C := by
 unfold zmh
 rw [List.set_append_right _ _ (by rw [yrr h]; omega), yrr h, Nat.sub_self, List.set_cons_zero]
theorem netK_end {g : GraphD} {k : Nat} {ls : List Lk} (hls : g.ports[k]? = some ls) : zmh g k (zqh ls) = zqv g (k + 1) := by
 unfold zmh zqv
 have e : (zkq g)[k]? = some (zqh ls) := by simp [zkq, hls]
 rw [ycd e]
 simp [Nat.sub_sub]
theorem netV_snoc {ls : List Lk} {j : Nat} {l : Lk} (h : ls[j]? = some l) : zqh (ls.take (j + 1)) = zqh (ls.take j) ||| (1#32 <<< l.1.toNat) := by
 unfold zqh; rw [ycd h, List.foldl_append]; rfl
theorem newnet_con (g : GraphD) (hg : ydd g = true) : Con Tryz.prog 105 [yin g] (zox g) := by
 have hv := ybp hg
 refine yan Tryz.func105 rfl rfl Tryz.ntmps105 Tryz.results105 rfl rfl ?_
 (repeat (first | refine zy ?_ | refine yao tok rfl rfl rfl rfl (by constructor <;> omega) rfl rfl rfl rfl rfl ?_))
 refine yjr (α := Nat) (fun k => [(15, i64 k), (14, i64 g.ports.length), (13, ybd g.ports), (3, .ls 11 1 g.ports.length)]) (fun k => [(11, some (.vec ((zqv g k).map ycm)))]) (fun k => g.ports.length - k) (fun k => k ≤ g.ports.length) 0 (by omega) (by exact zs) ?_ ?_
 ·refine ybq (yal ?_ yay)
  show some _ = some _
  congr 2
  rw [show yln [Value.int .u32 0] = [ycm 0#32] from rfl, ztp]
  simp [zqv]
 intro k hk
 (try refine zy ?_)
 refine yag rfl (fun h1 => ?_) (fun h1 => ?_)
 ·simp at h1
  obtain ⟨ls, hls⟩ := ycz h1
  have hlb := hv.2.2.2.2.2.1 k ls hls
  have hll := ycq h1 hlb
  (try refine zy ?_)
  refine yjr (α := Nat) (fun j => [(22, i64 j), (21, i64 ls.length), (20, yhn ls), (4, i64 k), (15, i64 k), (14, i64 g.ports.length), (13, ybd g.ports), (3, .ls 11 1 g.ports.length)]) (fun j => [(11, some (.vec ((zmh g k (zqh (ls.take j))).map ycm)))]) (fun j => ls.length - j) (fun j => j ≤ ls.length) 0 (by omega) (by exact zs) (hsE (by rw [netK_zero h1]; rfl)) ?_
  intro j hj
  (try refine zy ?_)
  refine yag rfl (fun h2 => ?_) (fun h2 => ?_)
  ·simp at h2
   obtain ⟨l, hl⟩ := ycz h2
   have hl1 := (ybu _ _ _).1 (((ycl _ _ _).1 hlb).1 l (List.mem_of_getElem? hl))
   have hat := netK_at (B := zqh (ls.take j)) h1
   (try refine zy ?_)
   refine yav tok rfl rfl rfl rfl (by omega) (by omega) rfl rfl ?_
   refine ycn (r := ycm (zqh (ls.take j))) tok rfl rfl rfl rfl (by rw [List.getElem?_map, show ((k : Int).toNat * 1) = k by simp, hat]; rfl) rfl rfl ?_
   (repeat (first | refine yid tok rfl (by constructor <;> omega) rfl rfl ?_ | refine yel rfl rfl (by omega) rfl rfl ?_ | refine ykr rfl rfl (by omega) rfl rfl ?_ | refine yic rfl rfl rfl rfl ?_ | refine yig rfl rfl rfl rfl ?_ | refine ymi rfl rfl rfl rfl ?_ | refine ybo rfl rfl rfl rfl ?_ | refine zI ?_ | refine zL ?_ | refine zC ?_ | refine ydw ?_ | refine ydl ?_ | refine zR ?_ | refine zD ?_ | refine zK ?_ | refine zB ?_ | refine zA ?_ | refine zS ?_ | refine zU ?_ | refine zV ?_ | refine zF ?_ | refine zN ?_ | with_reducible refine ybl ?_ | with_reducible refine ycc ?_ | refine ybr ?_ | refine ybx ?_ | refine yco ?_ | refine zT ?_ | refine zE ?_ | refine zX ?_ | refine yav tok rfl rfl rfl rfl (by omega) (by omega) rfl rfl ?_))
   refine yvc tok rfl rfl rfl rfl rfl rfl (by rw [List.length_map, netK_len h1]; omega) rfl (congrArg (fun z => yad ((11, some (LObj.vec z)) :: _)) (show _ = (zmh g k (zqh (ls.take (j + 1)))).map ycm by rw [netV_snoc hl, ← List.map_set, show ((k : Int).toNat * 1) = k by simp, netK_set h1])) rfl rfl ?_
   (try refine zy ?_)
   exact zgl (j + 1) (by omega) (by omega) (by exact zs) (ybq (yal rfl yay))
  ·simp at h2
   obtain rfl : j = ls.length := by omega
   (try refine zy ?_)
   exact zgl (k + 1) (by omega) (by omega) (by exact zs) (hsE (by rw [List.take_length, netK_end hls]))
 ·simp at h1
  obtain rfl : k = g.ports.length := by omega
  (try refine zy ?_)
  refine yaf ?_; refine ⟨_, rfl, ?_⟩
  have e : zqv g g.ports.length = zkq g := by unfold zqv; rw [Nat.sub_self, List.take_of_length_le (by rw [zkr]; omega)]; simp
  refine Frz.ls (rows := (zkq g).map fun B => [ycm B]) (xs := (zkq g).map ycm) ?_ (by rw [List.length_map, zkr]) (by intro r hr; obtain ⟨z, _, rfl⟩ := List.mem_map.1 hr; rfl) (yjd _) (by intro x hx i; obtain ⟨z, _, rfl⟩ := List.mem_map.1 hx; rfl)
  show some ((zqv g g.ports.length).map ycm) = _
  rw [e]
theorem alld_con (g : GraphD) (hg : ydd g = true) : Con Tryz.prog 106 [yin g] (ycm (zsm g.ports.length)) := by
 have hv := ybp hg
 refine yan Tryz.func106 rfl rfl Tryz.ntmps106 Tryz.results106 rfl rfl ?_
 (repeat (first | refine zdt tok rfl rfl rfl rfl rfl ?_ | refine zds tok rfl rfl rfl rfl rfl ?_ | refine zdr tok rfl rfl rfl rfl ?_ | refine yid tok rfl (by constructor <;> omega) rfl rfl ?_ | refine yel rfl rfl (by omega) rfl rfl ?_ | refine ykr rfl rfl (by omega) rfl rfl ?_ | refine yic rfl rfl rfl rfl ?_ | refine yig rfl rfl rfl rfl ?_ | refine ymi rfl rfl rfl rfl ?_ | refine ybo rfl rfl rfl rfl ?_ | refine zI ?_ | refine zL ?_ | refine zC ?_ | refine ydw ?_ | refine ydl ?_ | refine zR ?_ | refine zD ?_ | refine zK ?_ | refine zB ?_ | refine zA ?_ | refine zS ?_ | refine zU ?_ | refine zV ?_ | refine zF ?_ | refine zN ?_ | with_reducible refine ybl ?_ | with_reducible refine ycc ?_ | refine ybr ?_ | refine ybx ?_ | refine yco ?_ | refine zT ?_ | refine zE ?_ | refine zX ?_))
 refine yaf ?_; refine ⟨_, rfl, ?_⟩
 rw [show zsm g.ports.length = (1#32 <<< ((g.ids.length : Int)).toNat) - 1#32 by rw [hv.2.2.1, Int.toNat_natCast]; rfl]
 exact Frz.pure
theorem dvalid_con (kind : Int) (hk : 1 ≤ kind ∧ kind ≤ 4) : Con Tryz.prog 103 [i64 kind] (ycp true) := by
 refine yan Tryz.func103 rfl rfl Tryz.ntmps103 Tryz.results103 rfl rfl ?_
 (try refine zy ?_)
 refine yau 5 rfl (fun h1 => ?_) (fun h1 => ?_)
 ·(try refine zy ?_)
  refine yaf ?_; refine ⟨_, rfl, ?_⟩
  exact yai (by simp; omega)
 ·simp at h1; omega
def zoi (g : GraphD) (s : BitVec 32) : Bool := (List.range 24).all fun v => !(s.getLsbD v) || (zkq g).getD v 0#32 &&& s == 0#32
def zqi (g : GraphD) (kind : Int) (e s : BitVec 32) : Bool := !(s == 0#32) && (s &&& ~~~e == 0#32) && (if kind = 1 then s &&& (s - 1#32) == 0#32 else if kind = 2 then zoi g s else if kind = 4 then s == e else true)
theorem permits_con (g : GraphD) (kind : Int) (hk : 1 ≤ kind ∧ kind ≤ 4) (e s : BitVec 32) (hi : kind = 2 → s &&& ~~~e = 0#32 → Con Tryz.prog 222 [zox g, ycm s] (ycp (zoi g s))) : Con Tryz.prog 170 [zox g, i64 kind, ycm e, ycm s] (ycp (zqi g kind e s)) := by
 refine yan Tryz.func170 rfl rfl Tryz.ntmps170 Tryz.results170 rfl rfl ?_
 (try refine zy ?_)
 refine yau 11 rfl (fun h1 => ?_) (fun h1 => ?_)
 ·rw [ygv] at h1
  (try refine zy ?_)
  refine yaf ?_; refine ⟨_, rfl, ?_⟩
  exact yai (by simp only [zqi, h1]; rfl)
 rw [ygv] at h1
 (repeat (first | refine yid tok rfl (by constructor <;> omega) rfl rfl ?_ | refine yel rfl rfl (by omega) rfl rfl ?_ | refine ykr rfl rfl (by omega) rfl rfl ?_ | refine yic rfl rfl rfl rfl ?_ | refine yig rfl rfl rfl rfl ?_ | refine ymi rfl rfl rfl rfl ?_ | refine ybo rfl rfl rfl rfl ?_ | refine zI ?_ | refine zL ?_ | refine zC ?_ | refine ydw ?_ | refine ydl ?_ | refine zR ?_ | refine zD ?_ | refine zK ?_ | refine zB ?_ | refine zA ?_ | refine zS ?_ | refine zU ?_ | refine zV ?_ | refine zF ?_ | refine zN ?_ | with_reducible refine ybl ?_ | with_reducible refine ycc ?_ | refine ybr ?_ | refine ybx ?_ | refine yco ?_ | refine zT ?_ | refine zE ?_ | refine zX ?_))
 refine yag rfl (fun h2 => ?_) (fun h2 => ?_)
 ·rw [ypb] at h2
  (try refine zy ?_)
  refine yaf ?_; refine ⟨_, rfl, ?_⟩
  exact yai (by unfold zqi; rw [show (s &&& ~~~e == 0#32) = false by simpa [bne] using h2]; simp)
 rw [ypb] at h2
 have h2 : (s &&& ~~~e == 0#32) = true := by simpa [bne] using h2
 have hbase : zqi g kind e s = (if kind = 1 then s &&& (s - 1#32) == 0#32 else if kind = 2 then zoi g s else if kind = 4 then s == e else true) := by
  unfold zqi; rw [h1, h2]; simp
 rw [hbase]
 have : kind = 1 ∨ kind = 2 ∨ kind = 3 ∨ kind = 4 := by omega
 rcases this with rfl | rfl | rfl | rfl
 ·(repeat (first | refine zdt tok rfl rfl rfl rfl rfl ?_ | refine zds tok rfl rfl rfl rfl rfl ?_ | refine zdr tok rfl rfl rfl rfl ?_ | refine yid tok rfl (by constructor <;> omega) rfl rfl ?_ | refine yel rfl rfl (by omega) rfl rfl ?_ | refine ykr rfl rfl (by omega) rfl rfl ?_ | refine yic rfl rfl rfl rfl ?_ | refine yig rfl rfl rfl rfl ?_ | refine ymi rfl rfl rfl rfl ?_ | refine ybo rfl rfl rfl rfl ?_ | refine zI ?_ | refine zL ?_ | refine zC ?_ | refine ydw ?_ | refine ydl ?_ | refine zR ?_ | refine zD ?_ | refine zK ?_ | refine zB ?_ | refine zA ?_ | refine zS ?_ | refine zU ?_ | refine zV ?_ | refine zF ?_ | refine zN ?_ | with_reducible refine ybl ?_ | with_reducible refine ycc ?_ | refine ybr ?_ | refine ybx ?_ | refine yco ?_ | refine zT ?_ | refine zE ?_ | refine zX ?_))
  refine yaf ?_; refine ⟨_, rfl, ?_⟩
  rw [ygv]
  exact yai rfl
 ·(repeat (first | refine zy ?_ | refine yac rfl rfl (hi rfl (by simpa using h2)) rfl rfl ?_))
  refine yaf ?_; refine ⟨_, rfl, ?_⟩
  exact yai rfl
 ·(try refine zy ?_)
  refine yaf ?_; refine ⟨_, rfl, ?_⟩
  exact yai rfl
 ·(try refine zy ?_)
  refine yaf ?_; refine ⟨_, rfl, ?_⟩
  rw [zit]
  exact yai rfl
end
section
open Go.RowKit
def ziw (e w : BitVec 32) : BitVec 32 := if w &&& e = 0#32 then e &&& -e else w &&& e
def greedyV (g : GraphD) (w : BitVec 32) : BitVec 32 := (List.range 24).foldl (fun B v => if w.getLsbD v && ((zkq g).getD v 0#32 &&& B == 0#32) then B ||| (1#32 <<< v) else B) 0#32
def zvu (g : GraphD) (kind : Int) (e w : BitVec 32) : BitVec 32 := if kind = 1 then ziw e w &&& -(ziw e w) else if kind = 2 then greedyV g (ziw e w) else if kind = 4 then e else ziw e w
theorem resolve_con (g : GraphD) (kind : Int) (hk : kind = 1 ∨ kind = 3 ∨ kind = 4) (e w : BitVec 32) : Con Tryz.prog 109 [zox g, i64 kind, ycm e, ycm w] (ycm (zvu g kind e w)) := by
 refine yan Tryz.func109 rfl rfl Tryz.ntmps109 Tryz.results109 rfl rfl ?_
 (repeat (first | refine zdt tok rfl rfl rfl rfl rfl ?_ | refine zds tok rfl rfl rfl rfl rfl ?_ | refine zdr tok rfl rfl rfl rfl ?_ | refine yid tok rfl (by constructor <;> omega) rfl rfl ?_ | refine yel rfl rfl (by omega) rfl rfl ?_ | refine ykr rfl rfl (by omega) rfl rfl ?_ | refine yic rfl rfl rfl rfl ?_ | refine yig rfl rfl rfl rfl ?_ | refine ymi rfl rfl rfl rfl ?_ | refine ybo rfl rfl rfl rfl ?_ | refine zI ?_ | refine zL ?_ | refine zC ?_ | refine ydw ?_ | refine ydl ?_ | refine zR ?_ | refine zD ?_ | refine zK ?_ | refine zB ?_ | refine zA ?_ | refine zS ?_ | refine zU ?_ | refine zV ?_ | refine zF ?_ | refine zN ?_ | with_reducible refine ybl ?_ | with_reducible refine ycc ?_ | refine ybr ?_ | refine ybx ?_ | refine yco ?_ | refine zT ?_ | refine zE ?_ | refine zX ?_))
 refine zdo [(3, ycm (ziw e w)), (2, ycm e), (1, i64 kind), (4, .lp 4 0)] [(4, some (.cells [zox g]))] ?_ ?_
 ·refine yag rfl (fun h1 => ?_) (fun h1 => ?_)
  ·rw [ygv] at h1
   have h1 : w &&& e = 0#32 := by simpa using h1
   (repeat (first | refine zdt tok rfl rfl rfl rfl rfl ?_ | refine zds tok rfl rfl rfl rfl rfl ?_ | refine zdr tok rfl rfl rfl rfl ?_ | refine yid tok rfl (by constructor <;> omega) rfl rfl ?_ | refine yel rfl rfl (by omega) rfl rfl ?_ | refine ykr rfl rfl (by omega) rfl rfl ?_ | refine yic rfl rfl rfl rfl ?_ | refine yig rfl rfl rfl rfl ?_ | refine ymi rfl rfl rfl rfl ?_ | refine ybo rfl rfl rfl rfl ?_ | refine zI ?_ | refine zL ?_ | refine zC ?_ | refine ydw ?_ | refine ydl ?_ | refine zR ?_ | refine zD ?_ | refine zK ?_ | refine zB ?_ | refine zA ?_ | refine zS ?_ | refine zU ?_ | refine zV ?_ | refine zF ?_ | refine zN ?_ | with_reducible refine ybl ?_ | with_reducible refine ycc ?_ | refine ybr ?_ | refine ybx ?_ | refine yco ?_ | refine zT ?_ | refine zE ?_ | refine zX ?_))
   refine mid (yam (ygt rfl ?_) (by exact zs)) (by exact zh)
   rw [ziw, if_pos h1]
  ·rw [ygv] at h1
   have h1 : ¬ w &&& e = 0#32 := by simpa using h1
   (try refine zy ?_)
   refine mid (yam (ygt rfl ?_) (by exact zs)) (by exact zh)
   rw [ziw, if_neg h1]
 rcases hk with rfl | rfl | rfl
 ·(repeat (first | refine zdt tok rfl rfl rfl rfl rfl ?_ | refine zds tok rfl rfl rfl rfl rfl ?_ | refine zdr tok rfl rfl rfl rfl ?_ | refine yid tok rfl (by constructor <;> omega) rfl rfl ?_ | refine yel rfl rfl (by omega) rfl rfl ?_ | refine ykr rfl rfl (by omega) rfl rfl ?_ | refine yic rfl rfl rfl rfl ?_ | refine yig rfl rfl rfl rfl ?_ | refine ymi rfl rfl rfl rfl ?_ | refine ybo rfl rfl rfl rfl ?_ | refine zI ?_ | refine zL ?_ | refine zC ?_ | refine ydw ?_ | refine ydl ?_ | refine zR ?_ | refine zD ?_ | refine zK ?_ | refine zB ?_ | refine zA ?_ | refine zS ?_ | refine zU ?_ | refine zV ?_ | refine zF ?_ | refine zN ?_ | with_reducible refine ybl ?_ | with_reducible refine ycc ?_ | refine ybr ?_ | refine ybx ?_ | refine yco ?_ | refine zT ?_ | refine zE ?_ | refine zX ?_))
  refine yaf ?_; refine ⟨_, rfl, ?_⟩
  exact Frz.pure
 ·(try refine zy ?_)
  refine yaf ?_; refine ⟨_, rfl, ?_⟩
  exact Frz.pure
 ·(try refine zy ?_)
  refine yaf ?_; refine ⟨_, rfl, ?_⟩
  exact Frz.pure
def zim (p : ProgD) (g : GraphD) (kind : Int) (see : AV) : AV := .agg [yjx p g, zox g, i64 kind, ycm (zsm g.ports.length), see]
theorem yrt (p : ProgD) (g : GraphD) (hf : Fair p g) (h0 : yhv p g = 0) (kind : Int) (f : Nat) : Con Tryz.prog 53 [ypd p, yin g, i64 kind, .fn f []] (zim p g kind (.fn f [])) := by
 have hg := (yft.1 h0).2.1
 refine yja tok Tryz.func53 rfl rfl Tryz.ntmps53 Tryz.results53 rfl rfl ?_
 (repeat (first | refine zy ?_ | refine yac rfl rfl (yno p g hf h0) rfl rfl ?_ | refine yac rfl rfl (newnet_con g hg) rfl rfl ?_ | refine yac rfl rfl (alld_con g hg) rfl rfl ?_))
 refine yaf ?_; refine ⟨_, rfl, ?_⟩
 exact Frz.pure
theorem yuq {p : ProgD} {g : GraphD} {c : List (List Int)} (h : CfgOk p g c) (kind : Int) (hk : 1 ≤ kind ∧ kind ≤ 4) (n : Nat) (hn : n ≤ 4096) : Con Tryz.prog 52 [ypd p, yin g, i64 kind, yfh c, i64 n] (i64 0) := by
 have hm := ytd p g c h.fair h.cin
 rw [h.chk] at hm
 refine yan Tryz.func52 rfl rfl Tryz.ntmps52 Tryz.results52 rfl rfl ?_
 (repeat (first | refine zy ?_ | refine yac rfl rfl hm rfl rfl ?_ | refine yac rfl rfl (dvalid_con kind hk) rfl rfl ?_))
 refine yag rfl (fun h1 => ?_) (fun h1 => ?_)
 ·simp at h1; omega
 (try refine zy ?_)
 refine yaf ?_; refine ⟨_, rfl, ?_⟩
 exact Frz.pure
theorem zae (c : List (List Int)) (e : BitVec 32) (k : CntD) : Con Tryz.prog 54 [yfh c, ycm e, .agg (yra k)] (.tup []) := by
 refine yan Tryz.func54 rfl rfl Tryz.ntmps54 Tryz.results54 rfl rfl ?_
 (try refine zy ?_)
 exact ⟨_, rfl, Frz.pure⟩
structure RunD where
 c : List (List Int)
 e : BitVec 32
 k : CntD
 ch : List (BitVec 32)
 en : List (BitVec 32)
def zrv (p : ProgD) (g : GraphD) (c : List (List Int)) : RunD := ⟨c, ykl p g c, ymn (ykl p g c), [], [ykl p g c]⟩
def zrw (p : ProgD) (g : GraphD) (S : RunD) (set : BitVec 32) : RunD :=
 ⟨yzd p g S.c set, ykl p g (yzd p g S.c set), zqe S.k set (ykl p g (yzd p g S.c set)), S.ch ++ [set], S.en ++ [ykl p g (yzd p g S.c set)]⟩
def yzb (p : ProgD) (g : GraphD) (kind : Int) (ch : Nat → BitVec 32 → BitVec 32 × Bool) : Nat → Nat → RunD → Option RunD
 | 0, i, S => some S
 | m + 1, i, S => if (ch i S.e).2 = true then (if zqi g kind S.e (ch i S.e).1 = true then yzb p g kind ch m (i + 1) (zrw p g S (ch i S.e).1) else none) else some S
def traceA (S : RunD) : AV := .agg ([zqb S.ch, zqb S.en, yfh S.c] ++ yra S.k)
def zha : Option RunD → AV
 | some S => .tup [traceA S, i64 0]
 | none => .tup [.agg [zqb [], zqb [], yfh [], i64 0, i64 0, i64 0, i64 0, ycm 0#32], i64 11]
end
section
open Go.RowKit
theorem frz_none {h : Nat → Option LObj} : Frz h (.tup [.agg [.v (.slice none 0 0), .v (.slice none 0 0), .v (.slice none 0 0), i64 0, i64 0, i64 0, i64 0, ycm 0#32], i64 11]) (zha none) := by
 refine Frz.tup2 (Frz.aggL rfl rfl fun i x y hx hy => ?_) Frz.pure
 have hi := (List.getElem?_eq_some_iff.1 hx).1
 have : i = 0 ∨ i = 1 ∨ i = 2 ∨ i = 3 ∨ i = 4 ∨ i = 5 ∨ i = 6 ∨ i = 7 := by simp at hi; omega
 rcases this with rfl | rfl | rfl | rfl | rfl | rfl | rfl | rfl <;> simp only [List.getElem?_cons_zero, List.getElem?_cons_succ, Option.some.injEq] at hx hy <;> subst hx hy
 ·exact Frz.nil
 ·exact Frz.nil
 ·exact Frz.nil
 ·exact Frz.pure
 ·exact Frz.pure
 ·exact Frz.pure
 ·exact Frz.pure
 ·exact Frz.pure
theorem addV_steps {k : CntD} {a b : BitVec 32} : (zqe k a b).steps = k.steps + 1 := by unfold zqe; split <;> rfl
theorem yqw : ∀ R : Option RunD, ybf (zha R) = true
 | none => rfl
 | some S => rfl
def exH (S : RunD) : List (Nat × Option LObj) := [(12, some (.cells (yra S.k))), (10, some (.cells [.ls 100 1 S.ch.length, .ls 101 1 S.en.length, .v (.slice none 0 0), i64 0, i64 0, i64 0, i64 0, ycm 0#32])), (100, some (.vec (S.ch.map ycm))), (101, some (.vec (S.en.map ycm)))]
theorem exec_con {p : ProgD} {g : GraphD} {c : List (List Int)} (h : CfgOk p g c) (kind : Int) (n : Nat) (hn : n ≤ 4096) {f : Nat} {caps : List AV} (hcaps : (∃ r, caps = [.dp r 0]) ∨ ∃ r s, caps = [.dp r 0, .dp s 0]) (ch : Nat → BitVec 32 → BitVec 32 × Bool)
  (hch : ∀ (i : Nat) (S : RunD), i < n → CfgOk p g S.c → S.e = ykl p g S.c → Con Tryz.prog f ([i64 i, ycm S.e] ++ caps) (.tup [ycm (ch i S.e).1, ycp (ch i S.e).2]))
  (hper : ∀ (d : List (List Int)) (s : BitVec 32), CfgOk p g d → Con Tryz.prog 170 [zox g, i64 kind, ycm (ykl p g d), ycm s] (ycp (zqi g kind (ykl p g d) s))) :
  Con Tryz.prog 107 [zim p g kind (.fn 54 []), yfh c, i64 n, .fn f caps] (zha (yzb p g kind ch n 0 (zrv p g c))) := by
 have h24 := h.n24
 have hlen := h.len
 have h6 := h.vars6
 have hrows : ∀ r ∈ c, r.length ≤ 1000 := fun r hr => by have := h.rowlen r hr; omega
 have hcopy := con_of_own (zjo c (by omega) hrows) (r' := yfh c) rfl (zod (f := []) (M := 8) (n := c.length) rfl rfl rfl rfl rfl)
 have hand : ∀ d, CfgOk p g d → ykl p g d &&& zsm g.ports.length = ykl p g d := fun d hd => by
  have hl := hd.len
  apply BitVec.eq_of_getLsbD_eq
  intro i hi
  rw [BitVec.getLsbD_and, allV_bit _ h24 i hi, ywo (by omega), hl]
  cases decide (i < g.ports.length) <;> simp
 rcases hcaps with ⟨r0, rfl⟩ | ⟨r0, s0, rfl⟩
 all_goals
  refine yja tok Tryz.func107 rfl rfl Tryz.ntmps107 Tryz.results107 rfl (yqw _) ?_
  (repeat (first | with_reducible refine ycc ?_ | with_reducible refine ybl ?_ | refine ybx ?_)); refine ydl ?_; refine ydj (lf := lfT) rfl ?_
  (try refine zo ?_)
  refine zt ?_; refine ydj (lf := lfT) rfl ?_
  (try refine zo ?_)
  refine zt ?_
  refine zrc 10 0 100 1 rfl rfl rfl rfl rfl ?_
  refine zrc 10 1 101 1 rfl rfl rfl rfl rfl ?_
  (repeat (first | refine yig rfl rfl rfl rfl (ynd 24 (y := ycm (ykl p g c)) rfl (by rw [hand c h]) ?_) | refine zI ?_ | refine zL ?_ | refine zC ?_ | refine ydw ?_ | refine ydl ?_ | refine zR ?_ | refine zD ?_ | refine zK ?_ | refine zB ?_ | refine zA ?_ | refine zS ?_ | refine zU ?_ | refine zV ?_ | refine zF ?_ | with_reducible refine ybl ?_ | with_reducible refine ycc ?_ | refine ybr ?_ | refine ybx ?_ | refine yco ?_ | refine zT ?_ | refine zE ?_ | refine zX ?_ | refine yac rfl rfl hcopy rfl rfl ?_ | refine yac rfl rfl (yjv h) rfl rfl ?_ | refine yac rfl rfl (begin_con _) rfl rfl ?_ | refine yac rfl rfl (zae _ _ _) rfl rfl ?_ | refine zbq tok rfl rfl rfl (by simp) rfl (by simp [ybf]) (by simp) rfl rfl rfl rfl rfl ?_))
  refine yjr (α := Nat × RunD) (fun a => [(40, i64 a.1), (39, i64 n), (1, yfh a.2.c), (11, ycm a.2.e), (3, .fn f _), (4, .lp 4 0), (10, .lp 10 0), (12, .lp 12 0), (8, .lp 8 0)]) (fun a => exH a.2 ++ [(8, some (.cells (yln zra.zero))), (4, some (.cells [yjx p g, zox g, i64 kind, ycm (zsm g.ports.length), AV.fn 54 []]))]) (fun a => n - a.1) (fun a => a.1 ≤ n ∧ CfgOk p g a.2.c ∧ a.2.e = ykl p g a.2.c ∧ CntOk a.2.k ∧ a.2.k.steps = a.1 ∧ a.2.ch.length = a.1 ∧ a.2.en.length = a.1 + 1 ∧ yzb p g kind ch n 0 (zrv p g c) = yzb p g kind ch (n - a.1) a.1 a.2) (0, zrv p g c) ⟨by omega, h, rfl, begin_ok, rfl, rfl, rfl, rfl⟩ (by exact zs) (ybq (yal rfl (yal rfl (yal rfl (yal rfl (yal rfl (yal rfl yay))))))) ?_
  rintro ⟨i, ⟨c1, e1, k1, ch1, en1⟩⟩ ⟨hi, hS, hSe, hk, hks, hc1, he1, hex⟩
  simp only at hi hS hSe hk hks hc1 he1 hex ⊢
  subst hSe
  (try refine zw ?_)
  refine yag rfl (fun h1 => ?_) (fun h1 => ?_)
  ·simp at h1
   have hc9 := hch i ⟨c1, ykl p g c1, k1, ch1, en1⟩ h1 hS rfl
   obtain ⟨m, hm⟩ : ∃ m, n - i = m + 1 := ⟨n - i - 1, by omega⟩
   rw [hm] at hex
   simp only [yzb] at hex
   generalize hset : (ch i (ykl p g c1)) = set at hc9 hex
   obtain ⟨set, goes⟩ := set
   simp only at hc9 hex
   (repeat (first | refine zw ?_ | refine yac rfl rfl hc9 rfl rfl ?_))
   refine yag rfl (fun h2 => ?_) (fun h2 => ?_)
   ·have hfin : yzb p g kind ch n 0 (zrv p g c) = some ⟨c1, ykl p g c1, k1, ch1, en1⟩ := by rw [hex, if_neg (by simpa using h2)]
    (try refine zw ?_)
    refine zdo [(10, .lp 10 0), (8, .lp 8 0)] [(10, some (.cells ([.ls 100 1 ch1.length, .ls 101 1 en1.length, yfh c1] ++ yra k1))), (100, some (.vec (ch1.map ycm))), (101, some (.vec (en1.map ycm))), (8, some (.cells (yln zra.zero)))] ?_ ?_
    ·refine yeb (lf := lf0) zcu rfl ?_
     refine yqb [0, 2] 4 (yaa rfl (yaa rfl yak)) rfl (by kernel_rfl) ?_
     (try refine zo ?_)
     refine ybc [1, 3] 3 rfl (by kernel_rfl) (by simp) ⟨⟨_, rfl, ?_⟩, ⟨_, rfl, ?_⟩, trivial⟩
     ·(try refine zo ?_)
      refine yar [3, 4, 5] (yaa rfl (yaa rfl (yaa rfl yak))) rfl (by kernel_rfl) ?_
      (try refine zo ?_)
      refine mid (by exact zs) (by exact zh)
     ·(try refine zo ?_)
      refine yar [1, 4, 5] (yaa rfl (yaa rfl (yaa rfl yak))) rfl (by kernel_rfl) ?_
      (try refine zo ?_)
      refine mid (by exact zs) (by exact zh)
    refine zt ?_
    refine ykq 10 0 (ch1.map fun B => [ycm B]) rfl rfl rfl (by simp) (fun row hr => by obtain ⟨y, _, rfl⟩ := List.mem_map.1 hr; rfl) (yjd _) rfl rfl rfl rfl ?_
    refine ykq 10 1 (en1.map fun B => [ycm B]) rfl rfl rfl (by simp) (fun row hr => by obtain ⟨y, _, rfl⟩ := List.mem_map.1 hr; rfl) (yjd _) rfl rfl rfl rfl ?_
    (try refine zy ?_)
    refine yaf ?_; refine ⟨_, rfl, ?_⟩
    rw [hfin]
    exact Frz.pure
   have h2 : goes = true := by simpa using h2
   rw [if_pos h2] at hex
   (repeat (first | refine zw ?_ | refine yac rfl rfl (hper c1 set hS) rfl rfl ?_))
   refine yag rfl (fun h3 => ?_) (fun h3 => ?_)
   ·have hfin : yzb p g kind ch n 0 (zrv p g c) = none := by rw [hex, if_neg (by simpa using h3)]
    (try refine zy ?_)
    refine yaf ?_; refine ⟨_, rfl, ?_⟩
    rw [hfin]
    exact frz_none
   have h3 : zqi g kind (ykl p g c1) set = true := by simpa using h3
   rw [if_pos h3] at hex
   have hp0 : set ≠ 0#32 ∧ set &&& ~~~(ykl p g c1) = 0#32 := by
    unfold zqi at h3
    simp only [Bool.and_eq_true, Bool.not_eq_true', beq_eq_false_iff_ne, beq_iff_eq] at h3
    exact h3.1
   have hcl := hS.len
   have hst := hS.step set
   have hcl2 := hst.len
   have hsm := zfy hS set fun v hv hb => by
    have := zir hp0.2 hb
    rw [ywo (by omega)] at this
    simp only [Bool.and_eq_true] at this
    exact this.2
   have hin1 : InM set := zke fun v hv => by
    cases hb : set.getLsbD v with
    | false => rfl
    | true =>
     have := zir hp0.2 hb
     rw [ywo (by omega)] at this
     simp at this; omega
   have hin2 : InM (ykl p g (yzd p g c1 set)) := zke fun v hv => by
    rw [ywo (by omega)]
    have : decide (v < (yzd p g c1 set).length) = false := by simp; omega
    rw [this]; rfl
   (repeat (first | refine yig rfl rfl rfl rfl (ynd 72 (y := ycm (ykl p g (yzd p g c1 set))) rfl (by rw [hand _ hst]) ?_) | refine zI ?_ | refine zL ?_ | refine zC ?_ | refine ydw ?_ | refine ydl ?_ | refine zR ?_ | refine zD ?_ | refine zK ?_ | refine zB ?_ | refine zA ?_ | refine zS ?_ | refine zU ?_ | refine zV ?_ | refine zF ?_ | with_reducible refine ybl ?_ | with_reducible refine ycc ?_ | refine ybr ?_ | refine ybx ?_ | refine yco ?_ | refine zT ?_ | refine zE ?_ | refine zX ?_ | refine yac rfl rfl hsm rfl rfl ?_ | refine yac rfl rfl (yjv hst) rfl rfl ?_ | refine yac rfl rfl (add_con k1 hk (by omega) hp0.1 hin1 hin2) rfl rfl ?_ | refine yac rfl rfl (zae _ _ _) rfl rfl ?_ | refine zbq tok rfl rfl rfl (by simp) rfl (by simp [ybf]) (by simp; omega) rfl rfl rfl rfl rfl ?_))
   refine zgl (i + 1, zrw p g ⟨c1, ykl p g c1, k1, ch1, en1⟩ set) ⟨by simp only; omega, hst, rfl, add_ok hk (by omega) hp0.1 hin1 hin2, by simp only [zrw, addV_steps, hks]; omega, by simp [zrw, hc1], by simp [zrw, he1], by simp only; rw [hex, show n - (i + 1) = m by omega]⟩ (by simp only; omega) (by exact zs) (ybq (yal rfl (yal ?_ (yal ?_ (yal ?_ (yal rfl (yal rfl yay)))))))
   ·show some _ = some _
    simp [zrw]
   ·show some _ = some _
    simp [zrw, ycm]
   ·show some _ = some _
    simp [zrw, ycm]
  ·simp at h1
   obtain rfl : i = n := by omega
   have hfin : yzb p g kind ch i 0 (zrv p g c) = some ⟨c1, ykl p g c1, k1, ch1, en1⟩ := by rw [hex, Nat.sub_self]; rfl
   (try refine zw ?_)
   refine zdo [(10, .lp 10 0), (8, .lp 8 0)] [(10, some (.cells ([.ls 100 1 ch1.length, .ls 101 1 en1.length, yfh c1] ++ yra k1))), (100, some (.vec (ch1.map ycm))), (101, some (.vec (en1.map ycm))), (8, some (.cells (yln zra.zero)))] ?_ ?_
   ·refine yeb (lf := lf0) zcu rfl ?_
    refine yqb [0, 2] 4 (yaa rfl (yaa rfl yak)) rfl (by kernel_rfl) ?_
    (try refine zo ?_)
    refine ybc [1, 3] 3 rfl (by kernel_rfl) (by simp) ⟨⟨_, rfl, ?_⟩, ⟨_, rfl, ?_⟩, trivial⟩
    ·(try refine zo ?_)
     refine yar [3, 4, 5] (yaa rfl (yaa rfl (yaa rfl yak))) rfl (by kernel_rfl) ?_
     (try refine zo ?_)
     refine mid (by exact zs) (by exact zh)
    ·(try refine zo ?_)
     refine yar [1, 4, 5] (yaa rfl (yaa rfl (yaa rfl yak))) rfl (by kernel_rfl) ?_
     (try refine zo ?_)
     refine mid (by exact zs) (by exact zh)
   refine zt ?_
   refine ykq 10 0 (ch1.map fun B => [ycm B]) rfl rfl rfl (by simp) (fun row hr => by obtain ⟨y, _, rfl⟩ := List.mem_map.1 hr; rfl) (yjd _) rfl rfl rfl rfl ?_
   refine ykq 10 1 (en1.map fun B => [ycm B]) rfl rfl rfl (by simp) (fun row hr => by obtain ⟨y, _, rfl⟩ := List.mem_map.1 hr; rfl) (yjd _) rfl rfl rfl rfl ?_
   (try refine zy ?_)
   refine yaf ?_; refine ⟨_, rfl, ?_⟩
   rw [hfin]
   exact Frz.pure
end
section
open Go.RowKit
def zgo (p : ProgD) (g : GraphD) (kind : Int) : List AV := [yjx p g, zox g, i64 kind, ycm (zsm g.ports.length), .fn 54 []]
def chF (g : GraphD) (kind : Int) (ws : List (BitVec 32)) (i : Nat) (e : BitVec 32) : BitVec 32 × Bool := (zvu g kind e (ws.getD i 0#32), e != 0#32)
def zoa (p : ProgD) (g : GraphD) (kind : Int) (c : List (List Int)) (ws : List (BitVec 32)) : Option RunD := yzb p g kind (chF g kind ws) ws.length 0 (zrv p g c)
structure DmnOk (p : ProgD) (g : GraphD) (kind : Int) : Prop where
 kd : 1 ≤ kind ∧ kind ≤ 4
 res : ∀ (d : List (List Int)) (w : BitVec 32), CfgOk p g d → Con Tryz.prog 109 [zox g, i64 kind, ycm (ykl p g d), ycm w] (ycm (zvu g kind (ykl p g d) w))
 per : ∀ (d : List (List Int)) (s : BitVec 32), CfgOk p g d → Con Tryz.prog 170 [zox g, i64 kind, ycm (ykl p g d), ycm s] (ycp (zqi g kind (ykl p g d) s))
theorem dmn_plain (p : ProgD) (g : GraphD) (kind : Int) (hk : kind = 1 ∨ kind = 3 ∨ kind = 4) : DmnOk p g kind :=
 ⟨by omega, fun d w _ => resolve_con g kind hk _ w, fun d s _ => permits_con g kind (by omega) _ s (fun e _ => by omega)⟩
theorem follow1_con {p : ProgD} {g : GraphD} {kind : Int} (D : DmnOk p g kind) {ws : List (BitVec 32)} {i : Nat} (hi : i < ws.length) (hn : ws.length ≤ 4096) {d : List (List Int)} (hd : CfgOk p g d) : Con Tryz.prog 108 [i64 i, ycm (ykl p g d), .dp (zgo p g kind) 0, .dp [zqb ws] 0] (.tup [ycm (chF g kind ws i (ykl p g d)).1, ycp (chF g kind ws i (ykl p g d)).2]) := by
 obtain ⟨w, hw⟩ := ycz hi
 have hg : ws.getD i 0#32 = w := by rw [List.getD_eq_getElem?_getD, hw]; rfl
 refine yan Tryz.func108 rfl rfl Tryz.ntmps108 Tryz.results108 rfl rfl ?_
 (repeat (first | refine zy ?_ | refine yac rfl rfl (D.res d w hd) rfl rfl ?_))
 refine yaf ?_; refine ⟨_, rfl, ?_⟩
 rw [ypb]
 simp only [chF, hg]
 exact Frz.pure
theorem follow_con {p : ProgD} {g : GraphD} {c : List (List Int)} (h : CfgOk p g c) {kind : Int} (D : DmnOk p g kind) (ws : List (BitVec 32)) (hn : ws.length ≤ 4096) : Con Tryz.prog 55 [zim p g kind (.fn 54 []), yfh c, zqb ws] (zha (zoa p g kind c ws)) := by
 have he := exec_con h kind ws.length hn (f := 108) (caps := [.dp (zgo p g kind) 0, .dp [zqb ws] 0]) (.inr ⟨_, _, rfl⟩) (chF g kind ws) (fun i S hi hS hSe => by rw [hSe]; exact follow1_con D hi hn hS) (fun d s hd => D.per d s hd)
 unfold zoa
 generalize yzb p g kind (chF g kind ws) ws.length 0 (zrv p g c) = R at he
 refine yja tok Tryz.func55 rfl rfl Tryz.ntmps55 Tryz.results55 rfl (yqw _) ?_
 (repeat (first | with_reducible refine ycc ?_ | with_reducible refine ybl ?_ | refine ybx ?_)); refine ydl ?_; refine ydj (lf := lfT) rfl ?_
 (try refine zo ?_)
 refine zt ?_
 refine yiv 3 rfl rfl rfl rfl rfl ?_
 refine yiv 5 rfl rfl rfl rfl rfl ?_
 cases R with
 | none =>
  (repeat (first | refine zy ?_ | refine yac rfl rfl he rfl rfl ?_))
  refine yaf ?_; refine ⟨_, rfl, ?_⟩
  exact Frz.pure
 | some R =>
  (repeat (first | refine zy ?_ | refine yac rfl rfl he rfl rfl ?_))
  refine yaf ?_; refine ⟨_, rfl, ?_⟩
  exact Frz.pure
theorem rFollow_con {p : ProgD} {g : GraphD} {c : List (List Int)} (h : CfgOk p g c) {kind : Int} (D : DmnOk p g kind) (ws : List (BitVec 32)) (hn : ws.length ≤ 4096) : Con Tryz.prog 14 [ypd p, yin g, i64 kind, yfh c, zqb ws] (zha (zoa p g kind c ws)) := by
 have he := follow_con h D ws hn
 generalize zoa p g kind c ws = R at he
 refine yja tok Tryz.func14 rfl rfl Tryz.ntmps14 Tryz.results14 rfl (yqw _) ?_
 cases R with
 | none =>
  (repeat (first | refine zy ?_ | refine yac rfl rfl (yuq h kind D.kd ws.length hn) rfl rfl ?_ | refine yac rfl rfl (yrt p g h.fair h.fit kind _) rfl rfl ?_ | refine yac rfl rfl he rfl rfl ?_))
  refine yaf ?_; refine ⟨_, rfl, ?_⟩
  exact Frz.pure
 | some R =>
  (repeat (first | refine zy ?_ | refine yac rfl rfl (yuq h kind D.kd ws.length hn) rfl rfl ?_ | refine yac rfl rfl (yrt p g h.fair h.fit kind _) rfl rfl ?_ | refine yac rfl rfl he rfl rfl ?_))
  refine yaf ?_; refine ⟨_, rfl, ?_⟩
  exact Frz.pure
end
section
open Go.RowKit
abbrev TL := List (Nat × AV)
abbrev HL := List (Nat × Option LObj)
def ykt (p : AV → Bool) : List Nat → TL → TL
 | _, [] => []
 | seen, (s, x) :: r => match ylg s seen with
  | true => ykt p seen r
  | false => match p x with
   | true => (s, x) :: ykt p (s :: seen) r
   | false => ykt p (s :: seen) r
theorem ywl {p : AV → Bool} : ∀ {t : TL} {seen : List Nat} {s : Nat} {x : AV}, (s, x) ∈ ykt p seen t → ylg s seen = false ∧ look t s = some x
 | [], seen, s, x, h => by simp [ykt] at h
 | (k, y) :: r, seen, s, x, h => by
  simp only [ykt] at h
  split at h
  ·rename_i hm
   obtain ⟨h1, h2⟩ := ywl h
   refine ⟨h1, ?_⟩
   simp only [look]
   cases hb : Nat.beq s k with
   | true => rw [Nat.eq_of_beq_eq_true hb, hm] at h1; cases h1
   | false => exact h2
  ·rename_i hm
   have key : (s, x) ∈ ykt p (k :: seen) r → ylg s seen = false ∧ look ((k, y) :: r) s = some x := fun h => by
    obtain ⟨h1, h2⟩ := ywl h
    simp only [ylg] at h1
    cases hb : Nat.beq s k with
    | true => rw [hb] at h1; cases h1
    | false => rw [hb] at h1; exact ⟨h1, by simp only [look, hb]; exact h2⟩
   split at h
   ·rcases List.mem_cons.1 h with e | h
    ·cases e
     exact ⟨hm, by simp [look]⟩
    ·exact key h
   ·exact key h
theorem zln {t : TL} : ∀ {l : TL}, (∀ s x, (s, x) ∈ l → look t s = some x) → zdd t l
 | [], _ => trivial
 | (s, x) :: l, h => ⟨h s x List.mem_cons_self, zln fun s' x' hm => h s' x' (List.mem_cons_of_mem _ hm)⟩
theorem yzq (p : AV → Bool) (t : TL) : zdd t (ykt p [] t) := zln fun s x h => (ywl h).2
def yiz (p : Nat → LObj → Bool) : List Nat → HL → HL
 | _, [] => []
 | seen, (s, x) :: r => match ylg s seen with
  | true => yiz p seen r
  | false => match x with
   | none => yiz p (s :: seen) r
   | some o => match p s o with
    | true => (s, some o) :: yiz p (s :: seen) r
    | false => yiz p (s :: seen) r
theorem ynj {p : Nat → LObj → Bool} : ∀ {t : HL} {seen : List Nat} {s : Nat} {x : Option LObj}, (s, x) ∈ yiz p seen t → ylg s seen = false ∧ yad t s = x
 | [], seen, s, x, h => by simp [yiz] at h
 | (k, y) :: r, seen, s, x, h => by
  simp only [yiz] at h
  split at h
  ·rename_i hm
   obtain ⟨h1, h2⟩ := ynj h
   refine ⟨h1, ?_⟩
   simp only [yad]
   cases hb : Nat.beq s k with
   | true => rw [Nat.eq_of_beq_eq_true hb, hm] at h1; cases h1
   | false => exact h2
  ·rename_i hm
   have key : (s, x) ∈ yiz p (k :: seen) r → ylg s seen = false ∧ yad ((k, y) :: r) s = x := fun h => by
    obtain ⟨h1, h2⟩ := ynj h
    simp only [ylg] at h1
    cases hb : Nat.beq s k with
    | true => rw [hb] at h1; cases h1
    | false => rw [hb] at h1; exact ⟨h1, by simp only [yad, hb]; exact h2⟩
   split at h
   ·exact key h
   ·split at h
    ·rcases List.mem_cons.1 h with e | h
     ·cases e
      exact ⟨hm, by simp [yad]⟩
     ·exact key h
    ·exact key h
theorem zlm {t : HL} : ∀ {l : HL}, (∀ s x, (s, x) ∈ l → yad t s = x) → yus t l
 | [], _ => trivial
 | (s, x) :: l, h => ⟨fun o ho => by rw [h s x List.mem_cons_self, ho], zlm fun s' x' hm => h s' x' (List.mem_cons_of_mem _ hm)⟩
theorem yzp (p : Nat → LObj → Bool) (t : HL) : yus t (yiz p [] t) := zlm fun s x h => (ynj h).2
def yuy (d : Nat) (t : TL) : TL := ykt (fun x => !ment d x) [] t
def zig (d : Nat) (h : HL) : HL := yiz (fun i o => !Nat.beq d i && !yfv d o) [] h
theorem zcw (d : Nat) (t : TL) (h : HL) : Sub (S (yuy d t) (zig d h)) (S t h) := ⟨yby (yzq _ t), ybq (yzp _ h)⟩
section
variable {P : Program} {T : Nat → Option Ty} {N : Nat} {ops : Array Oper} {lf : Oper → Bool} {Q : SS → Prop} {t : TL} {h : HL} {rest : List Oper} {op : Op} {ty : TypeId} {pos : String} {af : Array Edge} {gd : Option (Nat × Bool)} {r : AV}
theorem ych.pre {o : Oper} {s s1 : SS} {R : SS → Prop} (h : ych P N o s1 R) (hs : Sub s1 s) : ych P N o s R := fun B ok0 lv a w hi Q => by
 obtain ⟨lv', hi'⟩ := hi.weak hs
 exact h B ok0 lv' a w hi' Q
def zvq (T : Nat → Option Ty) (t : TL) (h : HL) (ti : Nat) (x y : Operand) : Option AV :=
 match T ti with
 | some ⟨.slc _ es _ _ _, _, _, _⟩ => match evF (look t) y with
  | some (.v (.int _ (.ofNat m))) => match evF (look t) x with
   | some (.sl es' rows) => match Nat.beq es' es with
    | true => match rows[m]? with
     | some row => some (.dp row 0)
     | none => none
    | false => none
   | some (.ls id es' len) => match Nat.beq es' es && Nat.blt m len with
    | true => match yad h id with
     | some _ => some (.lp id (m * es))
     | none => none
    | false => none
   | _ => none
  | _ => none
 | _ => none
theorem idxC_ok (hT : TOK P T) {ti : Nat} {x y : Operand} (hr : zvq T t h ti x y = some r) : ybw P (yad h) (evF (look t)) (.indexAddr ti x y) ty r := by
 unfold zvq at hr
 split at hr
 ·rename_i e es ea eb ez sz ag z hk
  split at hr
  ·rename_i k m hy
   split at hr
   ·rename_i es' rows hx
    split at hr
    ·rename_i hb
     split at hr
     ·rename_i row hrow
      simp only [Option.some.injEq] at hr
      subst hr
      obtain rfl := Nat.eq_of_beq_eq_true hb
      exact ypw (hT _ _ hk).2.2 hx hy (by simp) (by simpa using hrow)
     ·cases hr
    ·cases hr
   ·rename_i id es' len hx
    split at hr
    ·rename_i hb
     simp only [Bool.and_eq_true] at hb
     split at hr
     ·rename_i ob hh
      simp only [Option.some.injEq] at hr
      subst hr
      obtain rfl := Nat.eq_of_beq_eq_true hb.1
      exact ypv (hT _ _ hk).2.2 hx hh hy (by simp) (by simpa [Nat.blt_eq] using hb.2)
     ·cases hr
    ·cases hr
   ·cases hr
  ·cases hr
 ·cases hr
end
end
end Go.Proofs.YtgpbgfpjlhoicaaGreatDoor
