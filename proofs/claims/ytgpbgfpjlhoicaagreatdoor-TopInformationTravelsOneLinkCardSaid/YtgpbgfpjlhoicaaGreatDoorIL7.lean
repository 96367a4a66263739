/- Part 7 of the texts under TopInformationTravelsOneLink: joined, with what it needs alone. -/
import GoSem.Core.Utf8
import Derived.Laws.BytesArg
import Derived.Lib.AppendStr
import Derived.Lib.UnsafeStr
import Derived.Lib.Builder
import Derived.Laws.Externs
import Derived.Laws.Pointers
import Derived.LaidEqlPtr
import Derived.RangeFuncNested
import Derived.RangeFuncSeq
import Derived.Test.YtgpbgfpjlhoicaaGreatDoorIL1
import Derived.Test.YtgpbgfpjlhoicaaGreatDoorIL3
import Derived.Test.YtgpbgfpjlhoicaaGreatDoorIL6
set_option linter.unusedVariables false
set_option maxRecDepth 100000
namespace Go.Proofs.YtgpbgfpjlhoicaaGreatDoor
section
open Go.RowKit
def yjb (t : Tm) : List AV := [i64 t.1, i64 t.2]
def ydp (l : List Tm) : AV := .sl 2 (l.map yjb)
def znt (s : SetD) : List AV := [i64 s.var, ydp s.val]
def yfb (r : RuleD) : List AV := [zdc r.name, ydp r.guard, .sl 2 (r.sets.map znt)]
def ydu (x : VarD) : List AV := [zdc x.name, i64 x.kind, i64 x.lo, i64 x.hi, i64 x.perNode, i64 x.perID]
def ypd (p : ProgD) : AV := .agg [zdc p.name, .sl 6 (p.vars.map ydu), .sl 3 (p.rules.map yfb)]
structure FaultD where
 node : Int
 var : Int
 value : Int
theorem yow {α : Type} {f : α → List AV} {R : List Value → α → Prop} {ok : Nat → Prop} {w : World} {lv : Live} {size : Nat} {l : List α} {v : Value} (h : Rel ok w lv (.sl size (l.map f)) v) (hok : ∀ g, ok g → g < w.heap.size)
  (hR : ∀ x ∈ l, ∀ cs, yca ok w (fun _ => none) (f x) cs → R cs x) : Seq R size w v l := by
 cases h with
 | sl a cap u g o hn hc ha hsz hg hcell hrel =>
  simp only [List.length_map] at hn ⊢
  have hfl : ∀ x ∈ l, (f x).length = size := fun x hx => hsz _ (List.mem_map_of_mem hx)
  refine ⟨(List.range (l.length * size)).map fun j => u (j / size) (j % size), ⟨a, cap, rfl, hn, hc, by simp, ha, ?_⟩, fun i x hx => ?_⟩
  ·rcases Nat.eq_zero_or_pos l.length with h0 | h0
   ·exact .inl h0
   ·obtain ⟨rfl, hok'⟩ := hg (by intro h; simp at h; simp [h] at h0)
    refine .inr ⟨g, o, rfl, hok g hok', fun j v hj => ?_⟩
    have hlt := (List.getElem?_eq_some_iff.1 hj).1
    simp only [List.length_map, List.length_range] at hlt
    rw [List.getElem?_map, List.getElem?_range hlt] at hj
    simp only [Option.map_some, Option.some.injEq] at hj
    have hs0 : 0 < size := by
     rcases Nat.eq_zero_or_pos size with h | h
     ·simp [h] at hlt
     ·exact h
    have hi : j / size < l.length := by rw [Nat.div_lt_iff_lt_mul hs0]; exact hlt
    have hx := List.getElem?_eq_getElem hi
    have hm : j % size < (f l[j / size]).length := by rw [hfl _ (List.getElem_mem hi)]; exact Nat.mod_lt _ hs0
    have := (hcell (j / size) (j % size) (f l[j / size]) _ (by simp [hx]) (List.getElem?_eq_getElem hm)).1
    rw [← hj, ← this]
    congr 2
    rw [Nat.add_assoc, Nat.mul_comm, Nat.div_add_mod]
  ·refine hR x (List.mem_of_getElem? hx) _ ⟨?_, fun j c v hc hv => ?_⟩
   ·have hi := (List.getElem?_eq_some_iff.1 hx).1
    rw [hfl x (List.mem_of_getElem? hx), List.length_take, List.length_drop, List.length_map, List.length_range]
    have : i * size + size ≤ l.length * size := by rw [← Nat.succ_mul]; exact Nat.mul_le_mul_right _ hi
    omega
   ·have hj : j < size := by have := (List.getElem?_eq_some_iff.1 hc).1; rw [hfl x (List.mem_of_getElem? hx)] at this; exact this
    have hi := (List.getElem?_eq_some_iff.1 hx).1
    have hlt : i * size + j < l.length * size := by
     have : i * size + size ≤ l.length * size := by rw [← Nat.succ_mul]; exact Nat.mul_le_mul_right _ hi
     omega
    rw [List.getElem?_take, if_pos hj, List.getElem?_drop, List.getElem?_map, List.getElem?_range hlt] at hv
    simp only [Option.map_some, Option.some.injEq] at hv
    have e1 : (i * size + j) / size = i := by rw [Nat.add_comm, Nat.add_mul_div_right _ _ (by omega), Nat.div_eq_of_lt hj, Nat.zero_add]
    have e2 : (i * size + j) % size = j := by rw [Nat.add_comm, Nat.add_mul_mod_self_right, Nat.mod_eq_of_lt hj]
    rw [e1, e2] at hv
    subst hv
    exact hrel i j (f x) c (by simp [hx]) hc
theorem zpo {α : Type} {g : α → List Value} {size : Nat} {w : World} {v : Value} {l : List α} (hg : ∀ x, (g x).length = size) (h0 : 0 < size) (h : Seq (fun cs x => cs = g x) size w v l) : Row w v size l.length (l.flatMap g) := ysc g hg h0 h fun cs x h => h
theorem yke {ok : Nat → Prop} {w : World} {lv : Live} {l : List Tm} {v : Value} (h : Rel ok w lv (ydp l) v) (hok : ∀ g, ok g → g < w.heap.size) : yde w v l :=
 zpo (g := fun t : Tm => [.int .i64 t.1, .int .i64 t.2]) (fun _ => rfl) (by omega) (yow h hok fun x _ cs hr => by
  obtain ⟨u, v, rfl, h1, h2⟩ := yya hr
  rw [yfp h1, yfp h2])
theorem yme {ok : Nat → Prop} {w : World} {lv : Live} {p : ProgD} {v : Value} (h : Rel ok w lv (ypd p) v) (hok : ∀ g, ok g → g < w.heap.size) : ygy w v p := by
 cases h with
 | agg vs hl hc hr =>
  obtain ⟨u, vv, rv, rfl, h1, h2, h3⟩ := zpk ⟨hl, hr⟩
  rw [yfp h1]
  refine ⟨vv, rv, rfl, ?_, ?_⟩
  ·exact zpo (fun _ => rfl) (by omega) (yow h2 hok fun x _ cs hr => by
    match cs, hr with
    | [c0, c1, c2, c3, c4, c5], hr =>
     have e0 := yfp (hr.2 0 _ _ rfl rfl)
     have e1 := yfp (hr.2 1 _ _ rfl rfl)
     have e2 := yfp (hr.2 2 _ _ rfl rfl)
     have e3 := yfp (hr.2 3 _ _ rfl rfl)
     have e4 := yfp (hr.2 4 _ _ rfl rfl)
     have e5 := yfp (hr.2 5 _ _ rfl rfl)
     rw [e0, e1, e2, e3, e4, e5]; rfl)
  ·exact yow h3 hok fun x _ cs hr => by
    obtain ⟨u, gv, sv, rfl, q1, q2, q3⟩ := zpk hr
    rw [yfp q1]
    exact ⟨gv, sv, rfl, yke q2 hok, yow q3 hok fun y _ cs hr => by
     obtain ⟨u, tv, rfl, r1, r2⟩ := yya hr
     rw [yfp r1]
     exact ⟨tv, rfl, yke r2 hok⟩⟩
end
section
open Go.RowKit
def ydg (g : GraphD) (v : Nat) (ls : List Lk) : List Int := ls.map fun l => yia (g.ports.getD l.1.toNat []) v
def ymm (g : GraphD) : List (List Int) := g.ports.mapIdx fun v ls => ydg g v ls
def yvu (p : ProgD) (g : GraphD) : List AV := [zdc p.name, .sl 6 (p.vars.map ydu), .sl 3 (p.rules.map yfb), yaq g.ids, ybd g.ports, i64 (ybt g.ids), yfh (ymm g)]
def zbb (p : ProgD) (g : GraphD) : AV := .dp (yvu p g) 0
theorem backs_get {g : GraphD} {v : Nat} {ls : List Lk} (h : g.ports[v]? = some ls) : (ymm g)[v]? = some (ydg g v ls) := by simp [ymm, List.getElem?_mapIdx, h]
theorem back_get {g : GraphD} {v k : Nat} {ls ls' : List Lk} {l : Lk} (h : ls[k]? = some l) (h' : g.ports[l.1.toNat]? = some ls') : (ydg g v ls)[k]? = some (yia ls' v) := by
 simp [ydg, h, List.getD_eq_getElem?_getD, h']
def ziv (p : ProgD) (g : GraphD) (c : List (List Int)) (v : Nat) (e : List Tm) : AV := .dp [zbb p g, yfh c, i64 v, ydp e] 0
end
set_option maxHeartbeats 8000000
section
open Go.RowKit
theorem fact_con (p : ProgD) (g : GraphD) (hg : ydd g = true) (c : List (List Int)) (v : Nat) (ls : List Lk) (hls : g.ports[v]? = some ls) (op port a : Int) (hop : 6 ≤ op ∧ op ≤ 17 ∧ op ≠ 12) (hp : 12 ≤ op → 0 ≤ port ∧ port < ls.length) :
  Con Tryz.prog 271 [zbb p g, i64 op, i64 v, i64 port] (i64 ((⟨g, c, v⟩ : Scn).leaf port (op, a))) := by
 have hv := ybp hg
 have hvl := (List.getElem?_eq_some_iff.1 hls).1
 have hlb := hv.2.2.2.2.2.1 v ls hls
 have hll := ycq hvl hlb
 have hids := hv.2.2.1
 obtain ⟨id, hid⟩ := ycz (show v < g.ids.length by omega)
 have hd : (⟨g, c, v⟩ : Scn).deg = ls.length := by simp [Scn.deg, List.getD_eq_getElem?_getD, hls]
 refine yan Tryz.func271 rfl rfl Tryz.ntmps271 Tryz.results271 rfl rfl ?_
 have : op = 6 ∨ op = 7 ∨ op = 8 ∨ op = 9 ∨ op = 10 ∨ op = 11 ∨ 12 < op := by omega
 rcases this with rfl | rfl | rfl | rfl | rfl | rfl | h12
 ·(try refine zy ?_)
  refine yaf ?_; refine ⟨_, rfl, ?_⟩; exact yae rfl
 ·(try refine zy ?_)
  refine yaf ?_; refine ⟨_, rfl, ?_⟩; exact yae rfl
 ·(try refine zy ?_)
  refine yaf ?_; refine ⟨_, rfl, ?_⟩; exact yae (by simp [Scn.leaf, List.getD_eq_getElem?_getD, hid])
 ·(try refine zy ?_)
  refine yaf ?_; refine ⟨_, rfl, ?_⟩; exact yae (by simp [Scn.leaf, hd])
 ·(repeat (first | refine zy ?_ | refine yac rfl rfl (yep _) rfl rfl ?_))
  refine yaf ?_; refine ⟨_, rfl, ?_⟩; exact yae (by simp only [Scn.leaf]; show ymt ((v : Int) == 0) = ymt (v == 0); congr 1; rw [Bool.eq_iff_iff, beq_iff_eq, beq_iff_eq]; omega)
 ·(try refine zy ?_)
  refine yaf ?_; refine ⟨_, rfl, ?_⟩; exact yae rfl
 ·obtain ⟨hp0, hp1⟩ := hp (by omega)
  obtain ⟨l, hl⟩ := ycz (show port.toNat < ls.length by omega)
  have hl1 := (ybu _ _ _).1 (((ycl _ _ _).1 hlb).1 l (List.mem_of_getElem? hl))
  have hlk : (⟨g, c, v⟩ : Scn).link port = l := by simp [Scn.link, List.getD_eq_getElem?_getD, hls, hl]
  obtain ⟨ls', hls'⟩ := ycz (show l.1.toNat < g.ports.length by omega)
  obtain ⟨id', hid'⟩ := ycz (show l.1.toNat < g.ids.length by omega)
  have hll' := ycq (show l.1.toNat < g.ports.length by omega) (hv.2.2.2.2.2.1 _ ls' hls')
  have hb1 := backs_get hls
  have hb2 := back_get (g := g) (v := v) hl hls'
  have : op = 13 ∨ op = 14 ∨ op = 15 ∨ op = 16 ∨ op = 17 := by omega
  rcases this with rfl | rfl | rfl | rfl | rfl
  ·(try refine zy ?_)
   refine yaf ?_; refine ⟨_, rfl, ?_⟩; exact yae (by simp [Scn.leaf, hlk, List.getD_eq_getElem?_getD, hid'])
  ·(try refine zy ?_)
   refine yaf ?_; refine ⟨_, rfl, ?_⟩; exact yae (by simp [Scn.leaf, hlk, List.getD_eq_getElem?_getD, hls'])
  ·(repeat (first | refine zy ?_ | refine yac rfl rfl (yep _) rfl rfl ?_))
   refine yaf ?_; refine ⟨_, rfl, ?_⟩; exact yae (by simp [Scn.leaf, hlk])
  ·(try refine zy ?_)
   refine yaf ?_; refine ⟨_, rfl, ?_⟩; exact yae (by simp [Scn.leaf, hlk])
  ·(try refine zy ?_)
   refine yaf ?_; refine ⟨_, rfl, ?_⟩; exact yae (by simp [Scn.leaf, hlk, List.getD_eq_getElem?_getD, hls'])
theorem wleaf_con (p : ProgD) (g : GraphD) (hg : ydd g = true) (c : List (List Int)) (e : List Tm) (v : Nat) (ls : List Lk) (hls : g.ports[v]? = some ls) (t : Tm) (port : Int) (hop : 1 ≤ t.1 ∧ t.1 ≤ 17) (hp : 12 ≤ t.1 → 0 ≤ port ∧ port < ls.length)
  (hc : c.length = g.ports.length) (hx : t.1 = 5 ∨ t.1 = 12 → 0 ≤ t.2 ∧ ∀ r ∈ c, t.2 < r.length) :
  Con Tryz.prog 245 [ziv p g c v e, .agg [i64 t.1, i64 t.2], i64 port] (i64 ((⟨g, c, v⟩ : Scn).leaf port t)) := by
 obtain ⟨op, a⟩ := t
 simp only at hop hp hx ⊢
 have hv := ybp hg
 have hvl := (List.getElem?_eq_some_iff.1 hls).1
 have hlb := hv.2.2.2.2.2.1 v ls hls
 have hll := ycq hvl hlb
 obtain ⟨r, hr⟩ := ycz (show v < c.length by omega)
 refine yan Tryz.func245 rfl rfl Tryz.ntmps245 Tryz.results245 rfl rfl ?_
 have : op = 1 ∨ op = 2 ∨ op = 3 ∨ op = 4 ∨ op = 5 ∨ op = 12 ∨ (6 ≤ op ∧ op ≤ 17 ∧ op ≠ 12) := by omega
 rcases this with rfl | rfl | rfl | rfl | rfl | rfl | h12
 ·(try refine zy ?_)
  refine yaf ?_; refine ⟨_, rfl, ?_⟩; exact yae rfl
 ·(try refine zy ?_)
  refine yaf ?_; refine ⟨_, rfl, ?_⟩; exact yae rfl
 ·(try refine zy ?_)
  refine yaf ?_; refine ⟨_, rfl, ?_⟩; exact yae rfl
 ·(try refine zy ?_)
  refine yaf ?_; refine ⟨_, rfl, ?_⟩; exact yae rfl
 ·obtain ⟨hx0, hx1⟩ := hx (.inl rfl)
  have hx2 := hx1 r (List.mem_of_getElem? hr)
  obtain ⟨z, hz⟩ := ycz (show a.toNat < r.length by omega)
  (try refine zy ?_)
  refine yaf ?_; refine ⟨_, rfl, ?_⟩; exact yae (by simp [Scn.leaf, Scn.get, List.getD_eq_getElem?_getD, hr, hz])
 ·obtain ⟨hp0, hp1⟩ := hp (by omega)
  obtain ⟨l, hl⟩ := ycz (show port.toNat < ls.length by omega)
  have hl1 := (ybu _ _ _).1 (((ycl _ _ _).1 hlb).1 l (List.mem_of_getElem? hl))
  have hlk : (⟨g, c, v⟩ : Scn).link port = l := by simp [Scn.link, List.getD_eq_getElem?_getD, hls, hl]
  obtain ⟨r', hr'⟩ := ycz (show l.1.toNat < c.length by omega)
  obtain ⟨hx0, hx1⟩ := hx (.inr rfl)
  have hx2 := hx1 r' (List.mem_of_getElem? hr')
  obtain ⟨z, hz⟩ := ycz (show a.toNat < r'.length by omega)
  (try refine zy ?_)
  refine yaf ?_; refine ⟨_, rfl, ?_⟩; exact yae (by simp [Scn.leaf, Scn.get, hlk, List.getD_eq_getElem?_getD, hr', hz])
 ·have h1 : ¬ op = 1 := by omega
  have h2 : ¬ op = 2 := by omega
  have h3 : ¬ op = 3 := by omega
  have h4 : ¬ op = 4 := by omega
  have h5 : ¬ op = 5 := by omega
  (try refine zy ?_)
  refine yag rfl (fun q1 => ?_) (fun q1 => ?_)
  ·exact absurd (by simpa using q1) h1
  (try refine zy ?_)
  refine yag rfl (fun q2 => ?_) (fun q2 => ?_)
  ·exact absurd (by simpa using q2) h2
  (try refine zy ?_)
  refine yag rfl (fun q3 => ?_) (fun q3 => ?_)
  ·exact absurd (by simpa using q3) h3
  (try refine zy ?_)
  refine yag rfl (fun q4 => ?_) (fun q4 => ?_)
  ·exact absurd (by simpa using q4) h4
  (try refine zy ?_)
  refine yag rfl (fun q5 => ?_) (fun q5 => ?_)
  ·exact absurd (by simpa using q5) h5
  (try refine zy ?_)
  refine yag rfl (fun q6 => ?_) (fun q6 => ?_)
  ·exact absurd (by simpa using q6) h12.2.2
  (repeat (first | refine zy ?_ | refine yac rfl rfl (fact_con p g hg c v ls hls op port a h12 hp) rfl rfl ?_))
  refine yaf ?_; refine ⟨_, rfl, ?_⟩; exact yae rfl
end
section
open Go.RowKit
theorem raggr_con (op : Int) : Con Tryz.prog 264 [i64 op] (ycp (yhs op)) :=
 ydn ⟨_, Tryz.func264, rfl, rfl⟩ fun w us ok hok hr => by
  obtain ⟨u, rfl, h1⟩ := ytj hr
  cases h1
  exact (ykn op w).mono fun e w' ⟨h1, h2⟩ => ⟨h1, h2 ▸ Below.refl _ _⟩
theorem ylk (op : Int) : Con Tryz.prog 262 [i64 op] (i64 (ar op)) :=
 ydn ⟨_, Tryz.func262, rfl, rfl⟩ fun w us ok hok hr => by
  obtain ⟨u, rfl, h1⟩ := ytj hr
  cases h1
  exact (yea op w).mono fun e w' ⟨h1, h2⟩ => ⟨h1, h2 ▸ Below.refl _ _⟩
theorem zlc (l : List Tm) (k : Nat) (E : Ex) (r : List Tm) (hl : l.length ≤ 1000) (hk : k ≤ 1000) (hE : l.drop k = E.fl ++ r) (ho : E.ok) : Con Tryz.prog 294 [ydp l, i64 k] (i64 ((k + E.fl.length : Nat) : Int)) :=
 ydn ⟨_, Tryz.func294, rfl, rfl⟩ fun w us ok hok hr => by
  obtain ⟨u, v, rfl, h1, h2⟩ := yya hr
  cases h2
  have e : ype 1 k l = ((k + E.fl.length : Nat) : Int) := by
   unfold ype
   rw [hE, zbz E ho 0 r, ykx]
   simp
  rw [← e]
  exact (ynt u l k w hl (Lib.hid (yke h1 hok)) hk).mono fun e w' ⟨h1, h2⟩ => ⟨h1, h2 ▸ Below.refl _ _⟩
def flX (Xs : List Ex) : List Tm := Xs.flatMap Ex.fl
theorem flX_next {Xs : List Ex} {i : Nat} {X : Ex} (h : Xs[i]? = some X) : flX (Xs.take (i + 1)) = flX (Xs.take i) ++ X.fl := by
 unfold flX; rw [ygu h]; simp
theorem flX_split {Xs : List Ex} {i : Nat} {X : Ex} (h : Xs[i]? = some X) : flX Xs = flX (Xs.take i) ++ (X.fl ++ flX (Xs.drop (i + 1))) := by
 have hi := (List.getElem?_eq_some_iff.1 h).1
 have e : Xs = Xs.take i ++ X :: Xs.drop (i + 1) := by
  rw [← (List.getElem?_eq_some_iff.1 h).2, List.getElem_cons_drop, List.take_append_drop]
 unfold flX
 conv => lhs; rw [e]
 simp
theorem ynu (l : List Tm) (p : Nat) (E : Ex) (Xs : List Ex) (t : Tm) (r r1 : List Tm) (hl : l.length ≤ 1000) (hE : l.drop p = E.fl ++ r) (ho : E.ok) (hA : l.drop p = t :: (flX Xs ++ r1)) (hX : ∀ X ∈ Xs, X.ok) (har : Xs.length < ar t.1) : Con Tryz.prog 268 [ydp l, i64 p, i64 (Xs.length : Nat)] (i64 ((p + 1 + (flX Xs).length : Nat) : Int)) := by
 have hlen := congrArg List.length hA
 rw [List.length_drop] at hlen
 simp only [List.length_cons, List.length_append] at hlen
 have hpt : l[p]? = some t := by
  have := congrArg (fun l => l[0]?) hA
  simpa using this
 have hd : l.drop (p + 1) = flX Xs ++ r1 := by rw [← List.tail_drop, hA]; rfl
 have h1 := zlc l p E r hl (by omega) hE ho
 have hxl : Xs.length ≤ 3 := by have := zea t.1; omega
 refine yan Tryz.func268 rfl rfl Tryz.ntmps268 Tryz.results268 rfl rfl ?_
 (repeat (first | refine zy ?_ | refine yac rfl rfl h1 rfl rfl ?_))
 refine yau 13 rfl (fun h9 => absurd h9 (by simp; omega)) (fun _ => ?_)
 (try refine zy ?_)
 refine yau 17 rfl (fun h9 => absurd h9 (by simp)) (fun _ => ?_)
 (repeat (first | refine zy ?_ | refine yki tok rfl rfl rfl (by omega) (zpp hpt) rfl rfl ?_ | refine yac rfl rfl (ylk t.1) rfl rfl ?_))
 refine yag rfl (fun h9 => absurd h9 (by simp; omega)) (fun _ => ?_)
 (try refine zy ?_)
 refine ycy (α := Nat) (fun i => [(8, i64 i), (7, i64 ((p + 1 + (flX (Xs.take i)).length : Nat) : Int)), (2, i64 (Xs.length : Nat)), (0, ydp l)]) (fun i => []) (fun i => Xs.length - i) (fun i => i ≤ Xs.length) 0 (by omega) (by exact zs) yay ?_
 intro i hi
 (try refine zy ?_)
 refine yag rfl (fun h2 => ?_) (fun h2 => ?_)
 ·have h2 : i < Xs.length := by simpa using h2
  obtain ⟨X, hXi⟩ := ycz h2
  have hs := flX_split hXi
  have hlx := congrArg List.length hs
  simp only [List.length_append] at hlx
  have hq : l.drop (p + 1 + (flX (Xs.take i)).length) = X.fl ++ (flX (Xs.drop (i + 1)) ++ r1) := by
   rw [← List.drop_drop, hd, hs]
   simp
  have h3 := zlc l _ X _ hl (by omega) hq (hX X (List.mem_of_getElem? hXi))
  (repeat (first | refine zy ?_ | refine yac rfl rfl h3 rfl rfl ?_))
  refine rnd (i + 1) (by omega) (by omega) ?_ yay
  refine yam rfl (yam (ygt rfl (ymp ?_)) (by exact zs))
  rw [flX_next hXi, List.length_append]
  omega
 ·have h2 : Xs.length ≤ i := by simpa using h2
  (try refine zy ?_)
  refine yaf ?_; refine ⟨_, rfl, ?_⟩
  exact yae (by rw [List.take_of_length_le h2])
end
section
open Go.RowKit
section
variable {P : Program} {T : Nat → Option Ty} {N : Nat} {ops : Array Oper} {lf : Oper → Bool} {Q : SS → Prop} {t : List (Nat × AV)} {h : List (Nat × Option LObj)} {rest : List Oper} {d : Nat} {op : Op} {ty : TypeId} {pos : String} {af : Array Edge} {gd : Option (Nat × Bool)} {r : AV}
theorem Sim.ownH {B : Bse} {ok0 : Nat → Prop} {s : SS} {lv : Live} {a : Act} {w : World} (hs : Sim B ok0 N s lv a w) {id : Nat} (hf : yls s id) :
  ∃ lv', Sim B ok0 N ⟨s.t, yeq s.h id (some (.vec []))⟩ lv' a w ∧ ∀ size, Rel (ybn B ok0 lv' w) w lv' (.ls id size 0) (.slice none 0 0) := by
 have hid : lv id = none := hs.inv.dom id hf.1
 have hsame : ∀ j b n, (fun j => if j = id then some (none, 0) else lv j : Live) j = some (some b, n) → lv j = some (some b, n) := by
  intro j b n hj
  simp only at hj
  split at hj
  ·cases hj
  ·exact hj
 have hok : ∀ g, ybn B ok0 lv w g → ybn B ok0 (fun j => if j = id then some (none, 0) else lv j) w g := fun g hg => ⟨hg.1, hg.2.1, fun j b n hj => hg.2.2 j b n (hsame j b n hj)⟩
 have hre : ∀ (x : AV) (u : Value), ment id x = false → Rel (ybn B ok0 lv w) w lv x u → Rel (ybn B ok0 (fun j => if j = id then some (none, 0) else lv j) w) w (fun j => if j = id then some (none, 0) else lv j) x u := fun x u hm hr =>
  (hr.relive fun j b n hj hmj => by
   split at hj
   ·rename_i e; subst e; rw [hm] at hmj; cases hmj
   ·exact hj).keep fun g hg => ⟨hok g hg, rfl⟩
 refine ⟨fun j => if j = id then some (none, 0) else lv j, ⟨⟨hs.inv.base, hs.inv.ok0lt, fun j hj => ?_, fun i j b n m h1 h2 => hs.inv.inj i j b n m (hsame _ _ _ h1) (hsame _ _ _ h2), fun j x hx => ?_⟩, hs.size, fun x y hy => ?_, hs.defers, hs.big, fun j b o hN hj hc hb => ?_⟩, fun size => ?_⟩
 ·by_cases h : j = id
  ·subst h; simp [yeq] at hj
  ·simp only [yeq, h, if_false] at hj ⊢; exact hs.inv.dom j hj
 ·by_cases h : j = id
  ·subst h
   simp only [yeq, if_true, Option.some.injEq] at hx
   subst hx
   exact ⟨none, 0, by simp, .inl rfl⟩
  ·simp only [yeq, h, if_false] at hx
   obtain ⟨b, n, h1, h2⟩ := hs.inv.obj j x hx
   refine ⟨b, n, by simp [h, h1], ?_⟩
   cases b with
   | none => exact h2
   | some b =>
    refine ⟨h2.1, h2.2.1, (h2.2.2.relive fun i b n hi hmi => ?_).keep (fun g hg => ⟨hok g hg, rfl⟩) rfl⟩
    split at hi
    ·rename_i e; subst e; rw [hf.2.2 j x hx] at hmi; cases hmi
    ·exact hi
 ·have := hs.frame x y hy
  exact ⟨this.1, hre y _ (hf.2.1 x y hy) this.2⟩
 ·by_cases h : j = id
  ·subst h; simp only [yeq, if_true, Option.some.injEq] at hj; subst hj; cases hc
  ·simp only [yeq, h, if_false] at hj ⊢
   exact hs.pin j b o hN hj hc hb
 ·refine .ls _ rfl fun b n hb => ?_
  simp only [if_true, Option.some.injEq, Prod.mk.injEq] at hb
  obtain ⟨rfl, rfl⟩ := hb
  exact ⟨rfl, rfl⟩
theorem ykk (hT : TOK P T) {o : Oper} {ti e es eb sz : Nat} {ea ag : Bool} {ez z : List Value} {x y : Operand} {m : Nat} {cs : List AV} {src : AV} {s : SS} (id : Nat) (ho : o.op = .call { callee := .builtin .append, args := #[x, y], argTypes := #[ti, ti] }) (hd : o.dst = some d) (hdN : d < N) (hk : T ti = some ⟨.slc e es ea eb ez, sz, ag, z⟩)
  (hx : evF s.t x = some (.v (.slice none 0 0))) (hf : yls s id) (hy : evF s.t y = some src) (hsrc : ∀ (ok : Nat → Prop) (w : World) (lv : Live) (u : Value), Rel ok w lv src u → zqm ok w es m cs u ∧ ∀ c ∈ cs, ydx c = true) (hcp : ∀ c ∈ cs, ybf c = true) (hlim : m ≤ 4294967296 ∧ m * eb ≤ 140737488355328) :
  ych P N o s (· = ⟨yes s.t (some d) (.ls id es m), yeq s.h id (some (.vec cs))⟩) := by
 intro B ok0 lv a w hs0 Q
 obtain ⟨lv1, hs, hnil⟩ := hs0.ownH hf
 obtain ⟨h1, h2⟩ := hsrc _ _ _ _ (hs.eval (s := ⟨s.t, yeq s.h id (some (.vec []))⟩) hy)
 have hxv : a.eval x = .slice none 0 0 := yfp (hs0.eval hx)
 obtain ⟨v', w', lv', hrun0, hs', hrel⟩ := yty (s' := ⟨s.t, yeq s.h id (some (.vec cs))⟩) (ty := o.type) hs (hT _ _ hk).2.2 (id := id) (len := 0) (xs := []) (by simp [yeq]) (by simp) (hnil es) h1 h2 hcp (by simpa using hlim)
  (fun x y h => .inr ⟨h, hf.2.1 x y h⟩) (fun x y h => ⟨y, h⟩) (fun j ob' hj hob => by
   simp only [yeq, hj, if_false] at hob
   exact ⟨hf.2.2 j ob' hob, ob', by simp only [yeq, hj, if_false]; exact hob, Or.inl rfl⟩) (by simp [yeq])
 have hrun : (execOp a.eval o).run P w = .ok (.value v') w' := by
  simp only [execOp, ho, resolve, invoke, builtin, Sem.run_bind, Sem.run_pure, Result.andThen_ok, List.map_toArray, List.map_cons, List.map_nil, hxv, hrun0]
 unfold Oper.wp
 rw [hrun]
 simp only [Oper.upon, hd]
 rw [Nat.zero_add] at hrel
 exact ⟨_, lv', rfl, hs'.putOnly hdN hrel⟩
theorem L_appendNil (hT : TOK P T) {ti e es eb sz : Nat} {ea ag : Bool} {ez z : List Value} {x y : Operand} {rows : List (List AV)} (hk : T ti = some ⟨.slc e es ea eb ez, sz, ag, z⟩) (hx : evF (look t) x = some (.v (.slice none 0 0))) (hy : evF (look t) y = some (.sl es rows))
  (hcp : ∀ c ∈ rows.flatten, ybf c = true) (hlim : rows.length ≤ 4294967296 ∧ rows.length * eb ≤ 140737488355328) (h1 : ydk d t = true) (h2 : ycb d h = true) (hl : lf ⟨some d, .call { callee := .builtin .append, args := #[x, y], argTypes := #[ti, ti] }, ty, pos, af, gd⟩ = true)
  (hw : yaj ops (look t) ⟨some d, .call { callee := .builtin .append, args := #[x, y], argTypes := #[ti, ti] }, ty, pos, af, gd⟩ = some true) (hd : Nat.blt d N = true) (k : Lex P N ops lf Q rest (S ((d, .ls d es rows.length) :: t) ((d, some (.vec rows.flatten)) :: h))) :
  Lex P N ops lf Q (⟨some d, .call { callee := .builtin .append, args := #[x, y], argTypes := #[ti, ti] }, ty, pos, af, gd⟩ :: rest) (S t h) := by
 refine yec hl hw ?_ k
 rw [← yqa]
 exact ykk hT d rfl rfl (by simpa using hd) hk hx (yho h1 h2) hy (fun ok w lv u hr => yyj hr) hcp hlim
theorem Sim.freezeC {B : Bse} {ok0 : Nat → Prop} {s : SS} {lv : Live} {a : Act} {w : World} (hs : Sim B ok0 N s lv a w) {jb k id size len : Nat} {xs ys ys' : List AV} {rows : List (List AV)} (hj : s.h jb = some (.cells ys)) (hk : ys[k]? = some (.ls id size len)) (hx : s.h id = some (.vec xs)) (hlen : rows.length = len) (hsize : ∀ row ∈ rows, row.length = size) (hfl : rows.flatten = xs)
  {s' : SS} (ht : ∀ x y, s'.t x = some y → y = .any ∨ s.t x = some y) (hlt : ∀ x y, s'.t x = some y → ∃ z, s.t x = some z) (hid : s'.h id = none) (hj' : s'.h jb = some (.cells ys')) (hyl : ys'.length = ys.length) (hh : ∀ j ob', s'.h j = some ob' → ∃ ob, s.h j = some ob ∧ ylr ob ob') : ∃ lv', Sim B ok0 N ⟨s'.t, yeq s'.h jb (some (.cells (ys'.set k (.sl size rows))))⟩ lv' a w := by
 obtain ⟨lv', h1, h2, h3, h4⟩ := hs.forg ht hlt hh
 refine ⟨lv', ?_⟩
 have hpure : ∀ x ∈ xs, ∀ i, ment i x = false := by
  intro x hxm i
  obtain ⟨b, n, g1, g2⟩ := hs.inv.obj id _ hx
  cases b with
  | none => simp only [yha, reduceCtorEq, exists_const, or_false] at g2; cases g2; cases hxm
  | some b => exact ybf.ment (g2.2.2.2 x hxm)
 obtain ⟨bo, n, g1, g2⟩ := hs.inv.obj jb _ hj
 obtain ⟨bo', n', k1, k2⟩ := h1.inv.obj jb _ hj'
 have hsame := h2 jb bo' n' k1
 rw [g1] at hsame
 cases hsame
 cases bo with
 | none => simp [yha] at g2
 | some b =>
  obtain ⟨q1, q2, c, e, q3, q4, q5, q6, q7⟩ := g2
  obtain ⟨r1, r2, c', e', r3, r4, r5, r6, r7⟩ := k2
  rw [q3] at r3
  cases r3
  have hkl := (List.getElem?_eq_some_iff.1 hk).1
  have hkc : k < c.size := by omega
  have hold : Rel (ybn B ok0 lv w) w lv (.ls id size len) c[k] := q7 k _ _ hk (by simp [hkc])
  have hnew : Rel (ybn B ok0 lv' w) w lv' (.sl size rows) c[k] := by
   have hr := yrn hs.inv hold (by rw [hx]; rfl) hlen hsize hfl hpure (ybn B ok0 lv' w) h4 (fun b n hb => ?_)
   ·exact hr.relive fun i b n _ hm => by simp [ment] at hm
   ·obtain ⟨_, _, g1, g2, _⟩ := hs.inv.lvat hb
    refine ⟨.inr g1, g2, fun j b' m hj he => ?_⟩
    subst he
    have := hs.inv.inj j id b' m n (h2 j _ m hj) hb
    subst this
    rw [h1.inv.dom j hid] at hj
    cases hj
  refine ⟨⟨h1.inv.base, h1.inv.ok0lt, fun j hjn => ?_, h1.inv.inj, fun j x hxj => ?_⟩, h1.size, h1.frame, h1.defers, h1.big, fun j b o hN hjx hc hb => ?_⟩
  ·by_cases hjj : j = jb
   ·subst hjj; simp [yeq] at hjn
   ·simp only [yeq, hjj, if_false] at hjn; exact h1.inv.dom j hjn
  ·by_cases hjj : j = jb
   ·subst hjj
    simp only [yeq, if_true, Option.some.injEq] at hxj
    subst hxj
    refine ⟨some b, n, k1, r1, r2, c, e, q3, q4, by simpa using r5, fun x hxm => ?_, fun i x u hi hu => ?_⟩
    ·rcases List.mem_or_eq_of_mem_set hxm with hm | hm
     ·exact r6 x hm
     ·subst hm; rfl
    ·rw [List.getElem?_set] at hi
     split at hi
     ·rename_i e1
      subst e1
      split at hi
      ·cases hi
       simp only [hkc, Array.getElem?_eq_getElem, Option.some.injEq] at hu
       subst hu
       exact hnew
      ·cases hi
     ·exact r7 i x u hi hu
   ·simp only [yeq, hjj, if_false] at hxj
    exact h1.inv.obj j x hxj
  ·by_cases hjj : j = jb
   ·subst hjj
    exact h1.pin j b _ hN hj' rfl hb
   ·simp only [yeq, hjj, if_false] at hjx
    exact h1.pin j b o hN hjx hc hb
theorem ykq {c : Code} {Q : Exit → SS → Prop} {t' : List (Nat × AV)} {h' : List (Nat × Option LObj)} (jb k : Nat) {id size len : Nat} {xs ys ys' : List AV} (rows : List (List AV)) (hj : yad h jb = some (.cells ys)) (hk : ys[k]? = some (.ls id size len)) (hx : yad h id = some (.vec xs)) (hlen : rows.length = len) (hsize : ∀ row ∈ rows, row.length = size) (hfl : rows.flatten = xs)
  (ht : yrg id t = some t') (hh : ypf id h = some h') (hj' : yad ((id, none) :: h') jb = some (.cells ys')) (hyl : Nat.beq ys'.length ys.length = true) (k : A P N c Q (S t' ((jb, some (.cells (ys'.set k (.sl size rows)))) :: (id, none) :: h'))) : A P N c Q (S t h) := by
 intro B ok0 lv a w hs
 obtain ⟨g1, g2⟩ := ygg ht
 obtain ⟨lv', hs'⟩ := hs.freezeC (s' := S t' ((id, none) :: h')) hj hk hx hlen hsize hfl (fun x y hy => (g1 x y hy).imp (fun h => h) And.left) g2 (by simp [S, yad]) hj' (Nat.eq_of_beq_eq_true hyl) (fun j ob' hj => by
  simp only [S, yad] at hj
  split at hj
  ·cases hj
  ·exact (yfi hh j ob' hj).2)
 refine k B ok0 lv' a w ?_
 rw [← S_h]
 exact hs'
end
section
variable {P : Program} {N : Nat} {ops : Array Oper} {lf : Oper → Bool} {Q Q0 : SS → Prop}
def zlj (ops : Array Oper) (lf : Oper → Bool) (k : Nat) (listed : Array Bool) : Bool :=
 (Region.ready .any ops listed).contains k && (match ops[k]? with
   | none => false
   | some o => (if lf o then Region.ready .any ops listed == [k] else (List.range ops.size).all fun j => j == k || listed.getD j true || yik ops ops.size j k || match ops[j]? with
    | some oj => o.apart ops oj && !lf oj
    | none => true))
def zgg (ops : Array Oper) (lf : Oper → Bool) : List Nat → Array Bool → Bool
 | [], _ => true
 | k :: ks, listed => zlj ops lf k listed && zgg ops lf ks (listed.setIfInBounds k true)
def yhh : List Nat → Array Bool → Array Bool
 | [], listed => listed
 | k :: ks, listed => yhh ks (listed.setIfInBounds k true)
theorem anyA_pre {l : List Oper} {s : SS} {fuel : Nat} (h : Lex P N ops lf Q0 l s) (hD : ∀ (k : Nat) (o : Oper), ops[k]? = some o → ysj N o) : ∀ (ks : List Nat) (listed : Array Bool), (∀ j : Nat, l[j]? = (ks[j]?).bind (fun k : Nat => ops[k]?)) → ks.length = l.length → ypk ops listed →
  (ypk ops (yhh ks listed) → ∀ s', Q0 s' → znj P N ops lf Q fuel (yhh ks listed) s') → zgg ops lf ks listed = true → znj P N ops lf Q (l.length + fuel) listed s := by
 induction h with
 | @nil s h =>
  intro ks listed hl hlen hcl hend hB
  have : ks = [] := List.eq_nil_of_length_eq_zero (by simpa using hlen)
  subst this
  simpa [yhh] using hend hcl s h
 | @split l s d b hb k ih =>
  intro ks listed hl hlen hcl hend hB
  have := ih b rfl ks listed hl hlen hcl hend hB
  rw [yjm hb] at this
  exact this
 | @calm o l s r hw hd hy k ih =>
  intro ks listed hl hlen hcl hend hB
  match ks, hlen with
  | k :: ks, hlen =>
   have h0 : ops[k]? = some o := by simpa using (hl 0).symm
   simp only [zgg, zlj, h0, Bool.and_eq_true] at hB
   obtain ⟨⟨hr, hf⟩, hB'⟩ := hB
   have hr' : k ∈ Region.ready .any ops listed := by simpa using hr
   have hk := ih ks (listed.setIfInBounds k true) (fun j => by have := hl (j + 1); simpa using this) (by simpa using hlen) (hcl.set hr') hend hB'
   rw [List.length_cons, Nat.add_right_comm]
   by_cases hlo : lf o = true
   ·simp only [hlo, if_true, beq_iff_eq] at hf
    refine ⟨fun h => (by rw [hf] at h; cases h), fun i hi => ?_⟩
    rw [hf] at hi
    simp only [List.mem_singleton] at hi
    subst hi
    unfold aOp
    simp only [h0]
    exact ⟨hd, .inl ⟨r, .inl ⟨hw, hy⟩, hk⟩⟩
   ·simp only [hlo] at hf
    refine yoe h0 hd (l.length + fuel) listed s hcl ?_ hr' (.inl ⟨hw, hy⟩) hk
    intro j oj hj hne hun
    simp only [Bool.false_eq_true, if_false, List.all_eq_true, List.mem_range] at hf
    have := hf j (Array.getElem?_eq_some_iff.1 hj).1
    simp only [hj, hun, Bool.or_eq_true, beq_iff_eq, hne, false_or, Bool.false_eq_true, Bool.and_eq_true, Bool.not_eq_true', or_false] at this
    exact this
 | @skip o l s hw hd k ih =>
  intro ks listed hl hlen hcl hend hB
  match ks, hlen with
  | k :: ks, hlen =>
   have h0 : ops[k]? = some o := by simpa using (hl 0).symm
   simp only [zgg, zlj, h0, Bool.and_eq_true] at hB
   obtain ⟨⟨hr, hf⟩, hB'⟩ := hB
   have hr' : k ∈ Region.ready .any ops listed := by simpa using hr
   have hk := ih ks (listed.setIfInBounds k true) (fun j => by have := hl (j + 1); simpa using this) (by simpa using hlen) (hcl.set hr') hend hB'
   rw [List.length_cons, Nat.add_right_comm]
   by_cases hlo : lf o = true
   ·simp only [hlo, if_true, beq_iff_eq] at hf
    refine ⟨fun h => (by rw [hf] at h; cases h), fun i hi => ?_⟩
    rw [hf] at hi
    simp only [List.mem_singleton] at hi
    subst hi
    unfold aOp
    simp only [h0]
    exact ⟨hd, .inl ⟨.v undef, .inr ⟨hw, rfl⟩, hk⟩⟩
   ·simp only [hlo] at hf
    refine yoe h0 hd (l.length + fuel) listed s hcl ?_ hr' (.inr ⟨hw, rfl⟩) hk
    intro j oj hj hne hun
    simp only [Bool.false_eq_true, if_false, List.all_eq_true, List.mem_range] at hf
    have := hf j (Array.getElem?_eq_some_iff.1 hj).1
    simp only [hj, hun, Bool.or_eq_true, beq_iff_eq, hne, false_or, Bool.false_eq_true, Bool.and_eq_true, Bool.not_eq_true', or_false] at this
    exact this
 | @loud o l s R hlo hw hy k ih =>
  intro ks listed hl hlen hcl hend hB
  match ks, hlen with
  | k :: ks, hlen =>
   have h0 : ops[k]? = some o := by simpa using (hl 0).symm
   simp only [zgg, zlj, h0, Bool.and_eq_true] at hB
   obtain ⟨⟨hr, hf⟩, hB'⟩ := hB
   have hr' : k ∈ Region.ready .any ops listed := by simpa using hr
   simp only [hlo, if_true, beq_iff_eq] at hf
   rw [List.length_cons, Nat.add_right_comm]
   refine ⟨fun h => (by rw [hf] at h; cases h), fun i hi => ?_⟩
   rw [hf] at hi
   simp only [List.mem_singleton] at hi
   subst hi
   unfold aOp
   simp only [h0]
   exact ⟨hD _ _ h0, .inr ⟨hlo, hw, R, hy, fun s' hs' => ih s' hs' ks (listed.setIfInBounds i true) (fun j => by have := hl (j + 1); simpa using this) (by simpa using hlen) (hcl.set hr') hend hB'⟩⟩
def zif (ops : Array Oper) : List Nat → List Oper → Prop
 | [], [] => True
 | k :: ks, o :: l => ops[k]? = some o ∧ zif ops ks l
 | _, _ => False
theorem yak : zif ops [] [] := trivial
theorem yaa {k : Nat} {ks : List Nat} {o : Oper} {l : List Oper} (h : ops[k]? = some o) (hl : zif ops ks l) : zif ops (k :: ks) (o :: l) := ⟨h, hl⟩
theorem zgb {ks : List Nat} : ∀ {l : List Oper}, zif ops ks l → ks.length = l.length ∧ ∀ j : Nat, l[j]? = (ks[j]?).bind (fun k : Nat => ops[k]?) := by
 induction ks with
 | nil =>
  intro l h
  cases l with
  | nil => exact ⟨rfl, fun j => by simp⟩
  | cons o l => exact h.elim
 | cons k ks ih =>
  intro l h
  cases l with
  | nil => exact h.elim
  | cons o l =>
   obtain ⟨h1, h2⟩ := ih h.2
   refine ⟨by simp [h1], fun j => ?_⟩
   cases j with
   | zero => simp only [List.getElem?_cons_zero, Option.bind_some, h.1]
   | succ j => simpa using h2 j
def zqd (P : Program) (N : Nat) (ops : Array Oper) (lf : Oper → Bool) (Q : SS → Prop) (fuel : Nat) (listed : Array Bool) (s : SS) : Prop :=
 (∀ (k : Nat) (o : Oper), ops[k]? = some o → ysj N o) → ypk ops listed → znj P N ops lf Q fuel listed s
theorem yeb {P : Program} {N : Nat} {Q : Exit → SS → Prop} {s : SS} {lf : Oper → Bool} (hm : P.follows .mixedOrders = true) {id : Nat} {l : List Oper} (hD : ypp N l = true) (k : zqd P N l.toArray lf (Q .normal) l.length (Array.replicate l.length false) s) : A P N (.region id l.toArray true) Q s := by
 intro B ok0 lv ac w hs
 have hDst : ∀ (k : Nat) (o : Oper), l.toArray[k]? = some o → ysj N o := fun k o ho d hd => by
  simp only [ypp, Bool.and_eq_true, List.all_eq_true] at hD
  have := hD.1 o (by have := Array.mem_of_getElem? ho; simpa using this)
  simp only [hd, Nat.blt_eq] at this
  exact this
 have hnd : ygd l = true := by simp only [ypp, Bool.and_eq_true] at hD; exact hD.2
 refine wpIn_region_any hm ?_
 have key := k hDst (fun k o hk => by
  simp only [Array.getD_eq_getD_getElem?, Array.getElem?_replicate] at hk
  split at hk <;> simp at hk)
 have := yim (n := 0) (yqo hnd) (Q' := fun e a' w' => ∃ s' lv', Q e s' ∧ Sim B ok0 N s' lv' a' w') (fun s lv a w hq hs => ⟨s, lv, hq, hs⟩) l.length _ s lv ac _ (hs.drew (w' := { w with drawn := w.drawn + 1 }) ⟨rfl, rfl, rfl, Nat.le_refl _, fun _ _ => rfl⟩) key
 simpa using this
theorem yqb (ks : List Nat) (fuel : Nat) {n : Nat} {listed : Array Bool} {l : List Oper} {s : SS} (hn : zif ops ks l) (hf : n = l.length + fuel) (hB : zgg ops lf ks listed = true) (k : Lex P N ops lf (zqd P N ops lf Q fuel (yhh ks listed)) l s) : zqd P N ops lf Q n listed s := by
 intro hD hcl
 subst hf
 obtain ⟨p1, p2⟩ := zgb hn
 exact anyA_pre k hD ks listed p2 p1 hcl (fun hc s' h => h hD hc) hB
theorem yar (ks : List Nat) {n : Nat} {listed : Array Bool} {l : List Oper} {s : SS} (hn : zif ops ks l) (hf : n = l.length) (hB : yrv ops lf ks listed = true) (k : Lex P N ops lf Q l s) : zqd P N ops lf Q n listed s := by
 intro hD hcl
 subst hf
 obtain ⟨p1, p2⟩ := zgb hn
 exact zje k hD ks listed p2 p1 hcl hB
def zhw (P : Program) (N : Nat) (ops : Array Oper) (lf : Oper → Bool) (Q : SS → Prop) (fuel : Nat) (listed : Array Bool) (s : SS) : List Nat → Prop
 | [] => True
 | k :: ks => (∃ o, ops[k]? = some o ∧ Lex P N ops lf (zqd P N ops lf Q fuel (listed.setIfInBounds k true)) [o] s) ∧ zhw P N ops lf Q fuel listed s ks
theorem ywv {fuel : Nat} {listed : Array Bool} {s : SS} : ∀ {ks : List Nat}, zhw P N ops lf Q fuel listed s ks → ∀ k ∈ ks, ∃ o, ops[k]? = some o ∧ Lex P N ops lf (zqd P N ops lf Q fuel (listed.setIfInBounds k true)) [o] s
 | [], _, k, h => by cases h
 | x :: ks, hh, k, h => by
  rcases List.mem_cons.1 h with rfl | h
  ·exact hh.1
  ·exact ywv hh.2 k h
theorem aOp_one {l : List Oper} {s : SS} {Q0 : SS → Prop} (h : Lex P N ops lf Q0 l s) (hD : ∀ (k : Nat) (o : Oper), ops[k]? = some o → ysj N o) : ∀ (o : Oper), l = [o] → ∀ (k : Nat), ops[k]? = some o → aOp P N ops lf k Q0 s := by
 have nilQ : ∀ {s : SS}, Lex P N ops lf Q0 [] s → Q0 s := by
  intro s h
  generalize hl : ([] : List Oper) = l at h
  induction h with
  | nil h => exact h
  | calm => cases hl
  | skip => cases hl
  | loud => cases hl
  | @split l s d b hb k ih =>
   have := ih b rfl hl
   rw [yjm hb] at this
   exact this
 induction h with
 | nil h => intro o hl; cases hl
 | @split l s d b hb k ih =>
  intro o hl k h0
  have := ih b rfl o hl k h0
  rw [yjm hb] at this
  exact this
 | @calm o l s r hw hd hy k ih =>
  intro o' hl k' h0
  cases hl
  unfold aOp
  simp only [h0]
  exact ⟨hd, .inl ⟨r, .inl ⟨hw, hy⟩, nilQ k⟩⟩
 | @skip o l s hw hd k ih =>
  intro o' hl k' h0
  cases hl
  unfold aOp
  simp only [h0]
  exact ⟨hd, .inl ⟨.v undef, .inr ⟨hw, rfl⟩, nilQ k⟩⟩
 | @loud o l s R hlo hw hy k ih =>
  intro o' hl k' h0
  cases hl
  unfold aOp
  simp only [h0]
  exact ⟨hD _ _ h0, .inr ⟨hlo, hw, R, hy, fun s' hs' => nilQ (k s' hs')⟩⟩
theorem ybc (ks : List Nat) (fuel : Nat) {n : Nat} {listed : Array Bool} {s : SS} (hf : n = fuel + 1) (hr : Region.ready .any ops listed = ks) (hne : ks ≠ []) (k : zhw P N ops lf Q fuel listed s ks) : zqd P N ops lf Q n listed s := by
 intro hD hcl
 subst hf
 refine ⟨fun h => absurd (hr.symm.trans h) hne, fun i hi => ?_⟩
 obtain ⟨o, ho, hL⟩ := ywv k i (hr ▸ hi)
 exact zjb (fun s' h => h hD (hcl.set hi)) (aOp_one hL hD o rfl i ho)
def Mid (t0 : List (Nat × AV)) (h0 : List (Nat × Option LObj)) (e : Exit) (s : SS) : Prop := e = .normal ∧ Sub (S t0 h0) s
theorem mid {t0 t : List (Nat × AV)} {h0 h : List (Nat × Option LObj)} (h1 : zdd t t0) (h2 : yus h h0) : Mid t0 h0 .normal (S t h) := ⟨rfl, yby h1, ybq h2⟩
theorem zlf {α : Type} {f : α → List AV} {k : Nat} (hf : ∀ x, (f x).length = k) : ∀ l : List α, (l.map f).flatten.length = l.length * k
 | [] => by simp
 | x :: l => by simp [hf x, Nat.succ_mul, Nat.add_comm, ← zlf hf l]
end
end
section
open Go.RowKit
section
variable {P : Program} {T : Nat → Option Ty} {N : Nat} {ops : Array Oper} {lf : Oper → Bool} {Q : SS → Prop} {t : List (Nat × AV)} {h : List (Nat × Option LObj)} {rest : List Oper} {d : Nat} {op : Op} {ty : TypeId} {pos : String} {af : Array Edge} {gd : Option (Nat × Bool)} {r : AV}
theorem L_u8 (hT : TOK P T) {z : Int} (hr : yqu T t h op ty = some (.v (.int .u8 (IntKind.u8.wrap z)))) (h0 : 0 ≤ z ∧ z ≤ 255) (hw : yaj ops (look t) ⟨some d, op, ty, pos, af, gd⟩ = some true) (hd : Nat.blt d N = true) (k : Lex P N ops lf Q rest (S ((d, .v (.int .u8 z)) :: t) h)) :
  Lex P N ops lf Q (⟨some d, op, ty, pos, af, gd⟩ :: rest) (S t h) := by
 refine zdq hT hr hw hd ?_
 have e : IntKind.u8.wrap z = z := by
  show z % 256 = z
  omega
 rw [e]
 exact k
theorem zrc {c : Code} {Q : Exit → SS → Prop} (jb k id size : Nat) {ys : List AV} (hj : yad h jb = some (.cells ys)) (hk : ys[k]? = some (.v (.slice none 0 0))) (h1 : ydk id t = true) (h2 : ycb id h = true) (hne : Nat.beq jb id = false)
  (kk : A P N c Q (S t ((jb, some (.cells (ys.set k (.ls id size 0)))) :: (id, some (.vec [])) :: h))) : A P N c Q (S t h) := by
 intro B ok0 lv a w hs
 obtain ⟨lv', hs1, hnil⟩ := hs.ownH (yho (t := t) (h := h) h1 h2)
 have hnj : jb ≠ id := fun e => by subst e; simp at hne
 have hj1 : yeq (yad h) id (some (.vec [])) jb = some (.cells ys) := by simp only [yeq, hnj, if_false]; exact hj
 refine kk B ok0 lv' a w ?_
 rw [← S_h]
 obtain ⟨bo, n, k1, k2⟩ := hs1.inv.obj jb _ hj1
 cases bo with
 | none => simp [yha] at k2
 | some b =>
  obtain ⟨q1, q2, cc, e, q3, q4, q5, q6, q7⟩ := k2
  have hkl := (List.getElem?_eq_some_iff.1 hk).1
  have hkc : k < cc.size := by omega
  have hold := yfp (q7 k _ cc[k] hk (by simp [hkc]))
  have hnew := hnil size
  rw [← hold] at hnew
  have hS : yad ((id, some (.vec [])) :: h) = yeq (yad h) id (some (.vec [])) := (yon id _ h).symm
  refine ⟨⟨hs1.inv.base, hs1.inv.ok0lt, fun j hjn => ?_, hs1.inv.inj, fun j x hxj => ?_⟩, hs1.size, hs1.frame, hs1.defers, hs1.big, fun j b' o hN hjx hc hb' => ?_⟩
  ·by_cases hjj : j = jb
   ·subst hjj; simp [yeq] at hjn
   ·simp only [yeq, hjj, if_false, hS] at hjn; exact hs1.inv.dom j hjn
  ·by_cases hjj : j = jb
   ·subst hjj
    simp only [yeq, if_true, Option.some.injEq] at hxj
    subst hxj
    refine ⟨some b, n, k1, q1, q2, cc, e, q3, q4, by simpa using q5, fun x hxm => ?_, fun i x u hi hu => ?_⟩
    ·rcases List.mem_or_eq_of_mem_set hxm with hm | hm
     ·exact q6 x hm
     ·subst hm; rfl
    ·rw [List.getElem?_set] at hi
     split at hi
     ·rename_i e1
      subst e1
      cases hi
      simp only [hkc, Array.getElem?_eq_getElem, Option.some.injEq] at hu
      subst hu
      exact hnew
     ·exact q7 i x u hi hu
   ·simp only [yeq, hjj, if_false, hS] at hxj
    exact hs1.inv.obj j x hxj
  ·by_cases hjj : j = jb
   ·subst hjj
    exact hs1.pin j b' _ hN hj1 rfl hb'
   ·simp only [yeq, hjj, if_false, hS] at hjx
    exact hs1.pin j b' o hN hjx hc hb'
end
def zij (T : Nat → Option Ty) (s : SS) : ResultVar → Option AV
 | .tmp t => evF s.t (.tmp t)
 | .cell b t => match T t with
  | some y => match evF s.t (.tmp b) with
   | some (.lp id off) => match ypn (s.h id) with
    | some xs => zme y.agg y.size (xs.drop off)
    | none => none
   | _ => none
  | none => none
def zml (T : Nat → Option Ty) (s : SS) : List ResultVar → Option (List AV)
 | [] => some []
 | r :: rs => match zij T s r, zml T s rs with
  | some x, some xs => some (x :: xs)
  | _, _ => none
def ytl (T : Nat → Option Ty) (s : SS) (rs : List ResultVar) : Option AV :=
 match zml T s rs with
 | some [x] => some x
 | some xs => some (.tup xs)
 | none => none
theorem resOneT_run {P : Program} {T : Nat → Option Ty} (hT : TOK P T) {B : Bse} {ok0 : Nat → Prop} {N : Nat} {s : SS} {lv : Live} {a : Act} {w : World} (hs : Sim B ok0 N s lv a w) {r : ResultVar} {x : AV} (h : zij T s r = some x) : ∃ u, Rel (ybn B ok0 lv w) w lv x u ∧ (zmu a.tmps r).run P w = .ok u w := by
 cases r with
 | tmp t => exact ⟨_, hs.eval (x := .tmp t) h, by simp [zmu, Act.eval]⟩
 | cell b t =>
  simp only [zij] at h
  split at h
  ·rename_i y hy
   split at h
   ·rename_i id off hb
    split at h
    ·rename_i xs hx
     obtain ⟨g1, g2⟩ := yez hx
     obtain ⟨b', n, k1, k2, k3⟩ := yga hs.inv g1 g2 (hs.eval (x := .tmp b) hb)
     have k4 := k3.drop off
     rw [Nat.zero_add] at k4
     obtain ⟨u, k5, k6⟩ := zcq (hT _ _ hy).1 k4 h
     have k2' : a.tmps.getD b undef = .pointer (some ⟨b', off, none⟩) := k2
     exact ⟨u, k6, by simp [zmu, k2', asAddr, k5]⟩
    ·cases h
   ·cases h
  ·cases h
theorem zgj {P : Program} {T : Nat → Option Ty} (hT : TOK P T) {B : Bse} {ok0 : Nat → Prop} {N : Nat} {s : SS} {lv : Live} {a : Act} {w : World} (hs : Sim B ok0 N s lv a w) : ∀ (rs : List ResultVar) (xs : List AV), zml T s rs = some xs →
  ∃ us : List Value, yca (ybn B ok0 lv w) w lv xs us ∧ (rs.mapM (zmu a.tmps)).run P w = .ok us w
 | [], xs, h => by simp only [zml, Option.some.injEq] at h; subst h; exact ⟨[], ⟨rfl, fun i x u h => by simp at h⟩, by simp⟩
 | r :: rs, xs, h => by
  simp only [zml] at h
  split at h
  ·rename_i x xs' h1 h2
   simp only [Option.some.injEq] at h
   subst h
   obtain ⟨us, hus, hrun⟩ := zgj hT hs rs xs' h2
   obtain ⟨u, hu, hrun1⟩ := resOneT_run hT hs h1
   refine ⟨u :: us, ⟨by simp [hus.1], fun i y v hy hv => ?_⟩, ?_⟩
   ·cases i with
    | zero => simp only [List.getElem?_cons_zero, Option.some.injEq] at hy hv; subst hy hv; exact hu
    | succ i => exact hus.2 i y v (by simpa using hy) (by simpa using hv)
   ·simp only [List.mapM_cons, Sem.run_bind, hrun1, Sem.run_pure, Result.andThen_ok, hrun]
  ·cases h
theorem yyb {P : Program} {T : Nat → Option Ty} (hT : TOK P T) {B : Bse} {ok0 : Nat → Prop} {N : Nat} {s : SS} {lv : Live} {a : Act} {w : World} (hs : Sim B ok0 N s lv a w) {fn : Func} {rs : List ResultVar} (hr : fn.results = rs.toArray) {x : AV} (h : ytl T s rs = some x) :
  ∃ u, Rel (ybn B ok0 lv w) w lv x u ∧ (results fn a.tmps).run P w = .ok u w := by
 unfold ytl at h
 have key : ∀ xs, zml T s rs = some xs → ∃ us : List Value, yca (ybn B ok0 lv w) w lv xs us ∧ (results fn a.tmps).run P w = .ok (if h : us.toArray.size = 1 then us.toArray[0] else .tuple us.toArray) w := by
  intro xs hx
  obtain ⟨us, h1, h2⟩ := zgj hT hs rs xs hx
  refine ⟨us, h1, ?_⟩
  have e : results fn a.tmps = (fn.results.mapM (zmu a.tmps) >>= fun vs => pure (if h : vs.size = 1 then vs[0] else .tuple vs)) := rfl
  have e2 : (List.toArray <$> rs.mapM (zmu a.tmps)) = (rs.mapM (zmu a.tmps) >>= fun l => pure l.toArray) := rfl
  rw [e, hr, List.mapM_toArray, e2]
  simp only [Sem.run_bind, h2, Result.andThen_ok, Sem.run_pure]
 split at h
 ·rename_i y hy
  simp only [Option.some.injEq] at h
  subst h
  obtain ⟨us, h1, h2⟩ := key _ hy
  match us, h1 with
  | [u], h1 => exact ⟨u, h1.2 0 _ _ rfl rfl, by simpa using h2⟩
 ·rename_i xs hne hy
  simp only [Option.some.injEq] at h
  subst h
  obtain ⟨us, h1, h2⟩ := key _ hy
  refine ⟨.tuple us.toArray, .tup us h1.1 h1.2, ?_⟩
  rw [h2, dif_neg]
  intro h
  have hl := h1.1
  simp only [List.size_toArray] at h
  rw [h] at hl
  match xs, hl with
  | [x], _ => exact hne x rfl
 ·cases h
def EndsT (T : Nat → Option Ty) (rs : List ResultVar) (y : AV) : Exit → SS → Prop
 | .normal, s => ∃ x, ytl T s rs = some x ∧ Frz s.h x y
 | .ret, s => ∃ x, ytl T s rs = some x ∧ Frz s.h x y
 | _, _ => False
theorem yja {P : Program} {T : Nat → Option Ty} (hT : TOK P T) {f : FuncId} {fn : Func} {c : Code} {N : Nat} {rs : List ResultVar} {args : List AV} {r : AV} (hf : P.funcs[f]? = some fn) (hn : (fn.name == "runtime.NumGoroutine") = false) (hb : fn.body = some c) (hN : fn.ntmps = N) (hrs : fn.results = rs.toArray) (hlen : (Nat.ble args.length N && Nat.ble N 1000000) = true) (hp : ybf r = true)
  (h : A P N c (EndsT T rs r) (S (ygb 0 args) [])) : Con P f args r := by
 refine ⟨⟨fn, hf, hn, by simp [hb]⟩, hp, fun ok0 w us hG hok hus => ?_⟩
 simp only [Bool.and_eq_true, Nat.ble_eq] at hlen
 obtain ⟨hlen', hbig⟩ := hlen
 refine (callsIn_wide (n := 0)).1 (callsIn_of_wp_marks hf hb trivial ?_)
 have hst : S (ygb 0 args) [] = ⟨zlz args, fun _ => none⟩ := by unfold S; rw [yok]; rfl
 have hs : Sim (ztk w) ok0 N (S (ygb 0 args) []) (fun _ => none) { tmps := us.toArray ++ Array.replicate (fn.ntmps - us.toArray.size) undef, defers := [] } w := by
  rw [hst]
  refine ⟨⟨Based.start hG, hok, fun _ _ => rfl, (fun i j b n m h => by cases h), (fun id x hx => by cases hx)⟩, ?_, fun x y hy => ?_, ⟨[], rfl, List.nodup_nil, fun d hd => by cases hd⟩, hbig, fun id b xs _ hx => by cases hx⟩
  ·simp [hN, hus.1]; omega
  ·have hlt := (List.getElem?_eq_some_iff.1 hy).1
   refine ⟨.inl (by omega), ?_⟩
   rw [yfg, if_pos (by omega)]
   obtain ⟨u, hu⟩ : ∃ u, us[x]? = some u := ⟨_, List.getElem?_eq_getElem (by rw [hus.1]; exact hlt)⟩
   simp only [yrh us _ x u hu]
   exact (hus.2 x y u hy hu).keep fun g hg => ⟨⟨.inl hg, hok g hg, fun id b n hb => by cases hb⟩, rfl⟩
 refine wpIn_mono (h _ ok0 _ _ w hs) fun e a' w' ⟨s', lv', hq, hs'⟩ => ?_
 have fin : ∀ x, ytl T s' rs = some x → Frz s'.h x r → ∀ (a' : Act) (w' : World), Sim (ztk w) ok0 N s' lv' a' w' → ∃ v, (results fn a'.tmps).run P w' = .ok v w' ∧ ∃ u, Ending.returned v = .returned u ∧ Rel (fun g => (ok0 g ∨ w.heap.size ≤ g) ∧ g < w'.heap.size) w' (fun _ => none) r u ∧ Below w.heap.size w w' := by
  intro x hx hfz a' w' hs'
  obtain ⟨u, hu, hrun⟩ := yyb hT hs' hrs hx
  exact ⟨u, hrun, u, rfl, (hfz _ _ _ _ _ hs'.inv hu).keep (fun g hg => ⟨⟨hg.1.imp (fun h => h) (fun h => h.elim (fun h => h.elim) (fun h => h)), hg.2⟩, rfl⟩), hs'.inv.base.below⟩
 cases e with
 | normal => obtain ⟨x, hx, hfz⟩ := hq; exact yda rfl rfl (fin x hx hfz) _ a' w' rfl hs'
 | ret => obtain ⟨x, hx, hfz⟩ := hq; exact yda rfl rfl (fin x hx hfz) _ a' w' rfl hs'
 | _ => exact hq.elim
end
section
open Go.RowKit
def yff (σ : Nat → Nat) : AV → AV
 | .lp id off => .lp (σ id) off
 | .ls id s n => .ls (σ id) s n
 | .mp id => .mp (σ id)
 | .agg cs => .agg (renL cs)
 | .tup cs => .tup (renL cs)
 | .fn f cs => .fn f (renL cs)
 | .fm f cs => .fm f (renL cs)
 | x => x
 where renL : List AV → List AV
 | [] => []
 | c :: cs => yff σ c :: renL cs
theorem yce (σ : Nat → Nat) : ∀ cs, yff.renL σ cs = cs.map (yff σ)
 | [] => rfl
 | c :: cs => by simp [yff.renL, yce σ cs]
def yen (ids : List Nat) : AV → Bool
 | .lp id _ => ids.contains id
 | .ls id _ _ => ids.contains id
 | .mp id => ids.contains id
 | .agg cs => onlyL cs
 | .tup cs => onlyL cs
 | .fn _ cs => onlyL cs
 | .fm _ cs => onlyL cs
 | _ => true
 where onlyL : List AV → Bool
 | [] => true
 | c :: cs => yen ids c && onlyL cs
def yyy (σ : Nat → Nat) : LObj → LObj
 | .cells xs => .cells (yff.renL σ xs)
 | .tcells e xs => .tcells e (yff.renL σ xs)
 | .mcells xs => .mcells (yff.renL σ xs)
 | o => o
def yqq (ids : List Nat) : LObj → Bool
 | .cells xs => yen.onlyL ids xs
 | .tcells _ xs => yen.onlyL ids xs
 | .mcells xs => yen.onlyL ids xs
 | _ => true
theorem yht (σ : Nat → Nat) (x : AV) : ydx (yff σ x) = ydx x := by cases x <;> rfl
section
variable {ok : Nat → Prop} {w : World} {lv lv1 : Live} {σ : Nat → Nat}
theorem Rel.unren (hl : ∀ id b n, lv1 id = some (b, n) → lv (σ id) = some (b, n)) : ∀ {x : AV} {u : Value}, Rel ok w lv (yff σ x) u → Rel ok w lv1 x u
 | .v _, u, h => by cases h; exact .v _
 | .any, u, h => .any u
 | .one, u, h => by cases h with | one _ h1 => exact .one _ h1
 | .sl s rows, u, h => by cases h with | sl a cap u g o hn hc ha hr hg hcell hrel => exact .sl a cap u g o hn hc ha hr hg hcell hrel
 | .dp row off, u, h => by cases h with | dp g o u hg hcell hrel => exact .dp g o u hg hcell hrel
 | .mv es, u, h => by cases h with | mv b hg hm => exact .mv b hg hm
 | .lp id off, u, h => by cases h with | lp _ h1 h2 => exact .lp _ h1 fun b n hb => h2 b n (hl id _ n hb)
 | .ls id s n, u, h => by cases h with | ls _ h1 h2 => exact .ls _ h1 fun b n hb => h2 b n (hl id _ n hb)
 | .mp id, u, h => by cases h with | mp _ h1 h2 => exact .mp _ h1 fun b n hb => h2 b n (hl id _ n hb)
 | .agg cs, u, h => by
  cases h with
  | agg vs hlen hc hr =>
   exact .agg vs (by rw [hlen, yce]; simp) (fun c hm => by rw [← yht σ]; exact hc _ (by rw [yce]; exact List.mem_map_of_mem hm)) (rows hr)
 | .tup cs, u, h => by
  cases h with
  | tup vs hlen hr => exact .tup vs (by rw [hlen, yce]; simp) (rows hr)
 | .fn f cs, u, h => by
  cases h with
  | fn vs hlen hr => exact .fn vs (by rw [hlen, yce]; simp) (rows hr)
 | .fm f cs, u, h => by
  cases h with
  | fm vs hlen hr => exact .fm vs (by rw [hlen, yce]; simp) (rows hr)
 where rows : ∀ {cs : List AV} {vs : List Value}, (∀ (i : Nat) (c : AV) (u : Value), (yff.renL σ cs)[i]? = some c → vs[i]? = some u → Rel ok w lv c u) → ∀ (i : Nat) (c : AV) (u : Value), cs[i]? = some c → vs[i]? = some u → Rel ok w lv1 c u
 | [], vs, _, i, c, u, hc, _ => by simp at hc
 | d :: cs, [], _, i, c, u, _, hu => by simp at hu
 | d :: cs, q :: vs, h, 0, c, u, hc, hu => by
  simp at hc hu
  subst hc hu
  exact Rel.unren hl (h 0 _ _ rfl rfl)
 | d :: cs, q :: vs, h, i + 1, c, u, hc, hu => rows (fun j c u h1 h2 => h (j + 1) c u (by simpa [yff.renL] using h1) (by simpa using h2)) i c u (by simpa using hc) (by simpa using hu)
theorem Rel.ren {ids : List Nat} (hl : ∀ id b n, id ∈ ids → lv (σ id) = some (b, n) → lv1 id = some (b, n)) : ∀ {x : AV} {u : Value}, yen ids x = true → Rel ok w lv1 x u → Rel ok w lv (yff σ x) u
 | .v _, u, _, h => by cases h; exact .v _
 | .any, u, _, h => .any u
 | .one, u, _, h => by cases h with | one _ h1 => exact .one _ h1
 | .sl s rows, u, _, h => by cases h with | sl a cap u g o hn hc ha hr hg hcell hrel => exact .sl a cap u g o hn hc ha hr hg hcell hrel
 | .dp row off, u, _, h => by cases h with | dp g o u hg hcell hrel => exact .dp g o u hg hcell hrel
 | .mv es, u, _, h => by cases h with | mv b hg hm => exact .mv b hg hm
 | .lp id off, u, ho, h => by cases h with | lp _ h1 h2 => exact .lp _ h1 fun b n hb => h2 b n (hl id _ n (by simpa [yen] using ho) hb)
 | .ls id s n, u, ho, h => by cases h with | ls _ h1 h2 => exact .ls _ h1 fun b n hb => h2 b n (hl id _ n (by simpa [yen] using ho) hb)
 | .mp id, u, ho, h => by cases h with | mp _ h1 h2 => exact .mp _ h1 fun b n hb => h2 b n (hl id _ n (by simpa [yen] using ho) hb)
 | .agg cs, u, ho, h => by
  cases h with
  | agg vs hlen hc hr =>
   refine .agg vs (by rw [hlen, yce]; simp) (fun c hm => ?_) (rows ho hr)
   rw [yce] at hm
   obtain ⟨y, hy, rfl⟩ := List.mem_map.1 hm
   rw [yht]; exact hc y hy
 | .tup cs, u, ho, h => by
  cases h with
  | tup vs hlen hr => exact .tup vs (by rw [hlen, yce]; simp) (rows ho hr)
 | .fn f cs, u, ho, h => by
  cases h with
  | fn vs hlen hr => exact .fn vs (by rw [hlen, yce]; simp) (rows ho hr)
 | .fm f cs, u, ho, h => by
  cases h with
  | fm vs hlen hr => exact .fm vs (by rw [hlen, yce]; simp) (rows ho hr)
 where rows : ∀ {cs : List AV} {vs : List Value}, yen.onlyL ids cs = true → (∀ (i : Nat) (c : AV) (u : Value), cs[i]? = some c → vs[i]? = some u → Rel ok w lv1 c u) → ∀ (i : Nat) (c : AV) (u : Value), (yff.renL σ cs)[i]? = some c → vs[i]? = some u → Rel ok w lv c u
 | [], vs, _, _, i, c, u, hc, _ => by simp [yff.renL] at hc
 | d :: cs, [], _, _, i, c, u, _, hu => by simp at hu
 | d :: cs, q :: vs, ho, h, 0, c, u, hc, hu => by
  simp only [yen.onlyL, Bool.and_eq_true] at ho
  simp [yff.renL] at hc hu
  subst hc hu
  exact Rel.ren hl ho.1 (h 0 _ _ rfl rfl)
 | d :: cs, q :: vs, ho, h, i + 1, c, u, hc, hu => by
  simp only [yen.onlyL, Bool.and_eq_true] at ho
  exact rows ho.2 (fun j c u h1 h2 => h (j + 1) c u (by simpa using h1) (by simpa using h2)) i c u (by simpa [yff.renL] using hc) (by simpa using hu)
end
def ypq (lv : Live) (b : Nat) : Prop := ∃ id n, lv id = some (some b, n)
def yfr (w : World) (lv : Live) : Bse := ⟨w, ypq lv, fun _ => none, none, [], fun _ => undef⟩
def yva (P : Program) (f : FuncId) (args : List AV) (hs : Nat → Option LObj) (r : AV) (hs' : Nat → Option LObj) : Prop :=
 ysk P f ∧ (∀ id o, hs' id = some o → isC o = true → ∃ o', hs id = some o' ∧ isC o' = true) ∧ ∀ (ok0 : Nat → Prop) (lv : Live) (w : World) (us : List Value), Inv (yfr w lv) ok0 hs lv w → yca (ybn (yfr w lv) ok0 lv w) w lv args us →
  Calls P f us.toArray w fun e w' => ∃ u lv', e = .returned u ∧ Rel (ybn (yfr w lv) ok0 lv' w') w' lv' r u ∧ Inv (yfr w lv) ok0 hs' lv' w' ∧ ∀ id o, hs' id = some o → isC o = true → ∃ b n n', lv id = some (some b, n) ∧ lv' id = some (some b, n')
theorem Inv.pinned {B : Bse} {ok0 : Nat → Prop} {h : Nat → Option LObj} {lv : Live} {w : World} (hi : Inv B ok0 h lv w) (p : Nat → Option Nat) (rd : Option Nat) (dl : List Deferred) (gv : Nat → Value) (hrd : ∀ l, rd = some l → (∃ r, B.w.heap[l]? = some (.loop r)) ∧ ¬ B.lent l) : Inv ⟨B.w, B.lent, p, rd, dl, gv⟩ ok0 h lv w :=
 ⟨⟨hi.base.os, hi.base.tape, hi.base.output, hi.base.size, hi.base.block, hi.base.glob, hi.base.gsize, hi.base.lentG, hrd⟩, hi.ok0lt, hi.dom, hi.inj, fun id x hx => by
  obtain ⟨b, n, h1, h2⟩ := hi.obj id x hx
  refine ⟨b, n, h1, ?_⟩
  cases b with
  | none => exact h2
  | some b => exact h2⟩
def zmy (T : Nat → Option Ty) (rs : List ResultVar) (r : AV) (hs' : Nat → Option LObj) : Exit → SS → Prop
 | .normal, s => ∃ x, ytl T s rs = some x ∧ Wk x r ∧ ∀ id o, hs' id = some o → s.h id = some o
 | .ret, s => ∃ x, ytl T s rs = some x ∧ Wk x r ∧ ∀ id o, hs' id = some o → s.h id = some o
 | _, _ => False
theorem zbw {P : Program} {T : Nat → Option Ty} (hT : TOK P T) {f : FuncId} {fn : Func} {c : Code} {N : Nat} {rs : List ResultVar} {args : List AV} {hs hs' : Nat → Option LObj} {r : AV} (hf : P.funcs[f]? = some fn) (hn : (fn.name == "runtime.NumGoroutine") = false) (hb : fn.body = some c) (hN : fn.ntmps = N) (hrs : fn.results = rs.toArray) (hlen : (Nat.ble args.length N && Nat.ble N 1000000) = true)
  (hcl : ∀ id o, hs' id = some o → isC o = true → N ≤ id ∧ ∃ o', hs id = some o' ∧ isC o' = true) (h : A P N c (zmy T rs r hs') ⟨look (ygb 0 args), hs⟩) : yva P f args hs r hs' := by
 refine ⟨⟨fn, hf, hn, by simp [hb]⟩, fun id o hx hc => (hcl id o hx hc).2, fun ok0 lv w us hi hus => ?_⟩
 simp only [Bool.and_eq_true, Nat.ble_eq] at hlen
 obtain ⟨hlen', hbig⟩ := hlen
 refine (callsIn_wide (n := 0)).1 (callsIn_of_wp_marks hf hb trivial ?_)
 have hsim : Sim ⟨w, ypq lv, fun id => (lv id).bind (·.1), none, [], fun _ => undef⟩ ok0 N ⟨look (ygb 0 args), hs⟩ lv { tmps := us.toArray ++ Array.replicate (fn.ntmps - us.toArray.size) undef, defers := [] } w := by
  refine ⟨hi.pinned _ _ _ _ (fun l h => by cases h), ?_, fun x y hy => ?_, ⟨[], rfl, List.nodup_nil, fun d hd => by cases hd⟩, hbig, fun id b o hN hx hc hb => ?_⟩
  ·simp [hN, hus.1]; omega
  ·simp only [yok] at hy
   have hlt := (List.getElem?_eq_some_iff.1 hy).1
   refine ⟨.inl (by omega), ?_⟩
   rw [yfg, if_pos (by omega)]
   obtain ⟨u, hu⟩ : ∃ u, us[x]? = some u := ⟨_, List.getElem?_eq_getElem (by rw [hus.1]; exact hlt)⟩
   simp only [yrh us _ x u hu]
   exact hus.2 x y u hy hu
  ·simp only at hb
   cases hl : lv id with
   | none => simp [hl] at hb
   | some q => obtain ⟨q1, q2⟩ := q; simp [hl] at hb; subst hb; exact ⟨q2, rfl⟩
 refine wpIn_mono (h _ ok0 _ _ w hsim) fun e a' w' ⟨s', lv', hq, hs2⟩ => ?_
 have fin : ∀ x, ytl T s' rs = some x → Wk x r → (∀ id o, hs' id = some o → s'.h id = some o) → ∀ (a' : Act) (w' : World), Sim ⟨w, ypq lv, fun id => (lv id).bind (·.1), none, [], fun _ => undef⟩ ok0 N s' lv' a' w' → ∃ v, (results fn a'.tmps).run P w' = .ok v w' ∧ ∃ u lv2, Ending.returned v = .returned u ∧ Rel (ybn (yfr w lv) ok0 lv2 w') w' lv2 r u ∧ Inv (yfr w lv) ok0 hs' lv2 w' ∧ ∀ id o, hs' id = some o → isC o = true → ∃ b n n', lv id = some (some b, n) ∧ lv2 id = some (some b, n') := by
  intro x hx hwk hsub a' w' hs2
  obtain ⟨u, hu, hrun⟩ := yyb (P := P) hT hs2 hrs hx
  obtain ⟨lv2, i1, i2, i3⟩ := hs2.inv.weak hsub
  refine ⟨u, hrun, u, lv2, rfl, hwk.rel _ _ _ _ ((hu.relive fun id b n hb _ => i2 id b n hb).keep fun g hg => ⟨i3 g hg, rfl⟩), i1.pinned _ _ _ _ (fun l h => by cases h), fun id o hx hc => ?_⟩
  obtain ⟨h1, o', hy, hc'⟩ := hcl id o hx hc
  obtain ⟨b, n, hb, ho⟩ := hi.obj id _ hy
  cases b with
  | none => simp only [yha] at ho; rcases ho with rfl | ⟨e, rfl⟩ <;> cases hc'
  | some b =>
   obtain ⟨n', hn'⟩ := hs2.pin id b o h1 (hsub id _ hx) hc (by simp [hb])
   obtain ⟨b2, n2, hb2, _⟩ := i1.obj id _ hx
   have := i2 id b2 n2 hb2
   rw [hn'] at this
   cases this
   exact ⟨b, n, _, hb, hb2⟩
 cases e with
 | normal => obtain ⟨x, hx, h1, h2⟩ := hq; exact yda rfl rfl (fin x hx h1 h2) _ a' w' rfl hs2
 | ret => obtain ⟨x, hx, h1, h2⟩ := hq; exact yda rfl rfl (fin x hx h1 h2) _ a' w' rfl hs2
 | _ => exact hq.elim
theorem ygl.unren {ok ok' : Nat → Prop} {w : World} {lv lv1 : Live} {σ : Nat → Nat} {b n : Nat} {x : LObj} (hl : ∀ id b n, lv1 id = some (b, n) → lv (σ id) = some (b, n)) (hk : ∀ g, ok g → ok' g) (h : ygl ok lv w b n (yyy σ x)) : ygl ok' lv1 w b n x := by
 cases x with
 | cells xs =>
  obtain ⟨c, e, g1, g2, g3, g4, g5⟩ := h
  rw [yce] at g3 g4 g5
  refine ⟨c, e, g1, g2, by simpa using g3, fun y hy => by rw [← yht σ]; exact g4 _ (List.mem_map_of_mem hy), fun j y u hy hu => ?_⟩
  exact (Rel.unren hl (g5 j (yff σ y) u (by simp [hy]) hu)).keep fun g hg => ⟨hk g hg, rfl⟩
 | vec xs =>
  obtain ⟨⟨c, e, g1, g2, g3, g4, g5⟩, hp⟩ := h
  exact ⟨⟨c, e, g1, g2, g3, g4, fun j y u hy hu => ((g5 j y u hy hu).relive fun id b n _ hm => by rw [ybf.ment (hp y (List.mem_of_getElem? hy))] at hm; cases hm).keep fun g hg => ⟨hk g hg, rfl⟩⟩, hp⟩
 | map es => exact h
 | iter es left cur => exact ypl.keep h (fun g hg => ⟨hk g hg, rfl⟩) rfl
 | siter s pos => exact h
 | tcells e xs =>
  obtain ⟨⟨c, e', g1, g2, g3, g4, g5⟩, hsh⟩ := h
  rw [yce] at g3 g4 g5 hsh
  exact ⟨⟨c, e', g1, g2, by simpa using g3, fun y hy => by rw [← yht σ]; exact g4 _ (List.mem_map_of_mem hy), fun j y u hy hu => (Rel.unren hl (g5 j (yff σ y) u (by simp [hy]) hu)).keep fun g hg => ⟨hk g hg, rfl⟩⟩, by simpa using hsh⟩
 | tvec e xs =>
  obtain ⟨⟨c, e', g1, g2, g3, g4, g5⟩, hp, hsh⟩ := h
  exact ⟨⟨c, e', g1, g2, g3, g4, fun j y u hy hu => ((g5 j y u hy hu).relive fun id b n _ hm => by rw [ybf.ment (hp y (List.mem_of_getElem? hy))] at hm; cases hm).keep fun g hg => ⟨hk g hg, rfl⟩⟩, hp, hsh⟩
 | mcells xs =>
  obtain ⟨c, e, g1, g2, g3, g4, g5⟩ := h
  rw [yce] at g3 g4 g5
  refine ⟨c, e, g1, g2, by simpa using g3, fun y hy => by rw [← yht σ]; exact g4 _ (List.mem_map_of_mem hy), fun j y u hy hu => ?_⟩
  exact (Rel.unren hl (g5 j (yff σ y) u (by simp [hy]) hu)).keep fun g hg => ⟨hk g hg, rfl⟩
theorem ygl.ren {ok ok' : Nat → Prop} {w : World} {lv lv1 : Live} {σ : Nat → Nat} {ids : List Nat} {b n : Nat} {x : LObj} (hl : ∀ id b n, id ∈ ids → lv (σ id) = some (b, n) → lv1 id = some (b, n)) (ho : yqq ids x = true) (hk : ∀ g, ok g → ok' g) (h : ygl ok lv1 w b n x) : ygl ok' lv w b n (yyy σ x) := by
 cases x with
 | cells xs =>
  obtain ⟨c, e, g1, g2, g3, g4, g5⟩ := h
  refine ⟨c, e, g1, g2, by rw [yce]; simpa using g3, fun y hy => ?_, fun j y u hy hu => ?_⟩
  ·rw [yce] at hy
   obtain ⟨z, hz, rfl⟩ := List.mem_map.1 hy
   rw [yht]; exact g4 z hz
  ·exact (Rel.ren.rows (vs := c.toList) hl ho (fun j y u hy hu => g5 j y u hy (by simpa using hu)) j y u hy (by simpa using hu)).keep fun g hg => ⟨hk g hg, rfl⟩
 | vec xs =>
  obtain ⟨⟨c, e, g1, g2, g3, g4, g5⟩, hp⟩ := h
  exact ⟨⟨c, e, g1, g2, g3, g4, fun j y u hy hu => ((g5 j y u hy hu).relive fun id b n _ hm => by rw [ybf.ment (hp y (List.mem_of_getElem? hy))] at hm; cases hm).keep fun g hg => ⟨hk g hg, rfl⟩⟩, hp⟩
 | map es => exact h
 | iter es left cur => exact ypl.keep h (fun g hg => ⟨hk g hg, rfl⟩) rfl
 | siter s pos => exact h
 | tcells e xs =>
  obtain ⟨⟨c, e', g1, g2, g3, g4, g5⟩, hsh⟩ := h
  refine ⟨⟨c, e', g1, g2, by rw [yce]; simpa using g3, fun y hy => ?_, fun j y u hy hu => ?_⟩, by rw [yce]; simpa using hsh⟩
  ·rw [yce] at hy
   obtain ⟨z, hz, rfl⟩ := List.mem_map.1 hy
   rw [yht]; exact g4 z hz
  ·exact (Rel.ren.rows (vs := c.toList) hl ho (fun j y u hy hu => g5 j y u hy (by simpa using hu)) j y u hy (by simpa using hu)).keep fun g hg => ⟨hk g hg, rfl⟩
 | tvec e xs =>
  obtain ⟨⟨c, e', g1, g2, g3, g4, g5⟩, hp, hsh⟩ := h
  exact ⟨⟨c, e', g1, g2, g3, g4, fun j y u hy hu => ((g5 j y u hy hu).relive fun id b n _ hm => by rw [ybf.ment (hp y (List.mem_of_getElem? hy))] at hm; cases hm).keep fun g hg => ⟨hk g hg, rfl⟩⟩, hp, hsh⟩
 | mcells xs =>
  obtain ⟨c, e, g1, g2, g3, g4, g5⟩ := h
  refine ⟨c, e, g1, g2, by rw [yce]; simpa using g3, fun y hy => ?_, fun j y u hy hu => ?_⟩
  ·rw [yce] at hy
   obtain ⟨z, hz, rfl⟩ := List.mem_map.1 hy
   rw [yht]; exact g4 z hz
  ·exact (Rel.ren.rows (vs := c.toList) hl ho (fun j y u hy hu => g5 j y u hy (by simpa using hu)) j y u hy (by simpa using hu)).keep fun g hg => ⟨hk g hg, rfl⟩
theorem yvs (σ : Nat → Nat) (x : LObj) : isC (yyy σ x) = isC x := by cases x <;> rfl
theorem zlb {σ : Nat → Nat} {x : LObj} (h : yyy σ x = .vec [] ∨ ∃ e, yyy σ x = .tvec e []) : x = .vec [] ∨ ∃ e, x = .tvec e [] := by
 cases x <;> simp_all [yyy]
def zuu (σ : Nat → Nat) (ids : List Nat) (hm' : Nat → Option LObj) (y : AV) : Prop := (∀ i ∈ ids, ment (σ i) y = false) ∨ ∃ i ∈ ids, ∃ off o, (y = .lp (σ i) off ∨ ∃ f, y = .fm f [.lp (σ i) off]) ∧ hm' i = some o ∧ isC o = true
set_option maxHeartbeats 4000000
section
variable {P : Program} {N : Nat}
def yzf (y : Option AV) (f : FuncId) (caps : List AV) (args : List Operand) : Prop := y = some (.fn f caps) ∨ (y = some (.fm f caps) ∧ args = [])
theorem callee_run {B : Bse} {ok0 : Nat → Prop} {s : SS} {lv : Live} {a : Act} {w : World} (hs : Sim B ok0 N s lv a w) {o : Oper} {g : Operand} {args : List Operand} {ats : Array TypeId} {f : FuncId} {caps : List AV} (ho : o.op = .call { callee := .value g, args := args.toArray, argTypes := ats }) (hb : ysk P f) (hg : yzf (evF s.t g) f caps args) :
  ∃ vs : List Value, vs.length = caps.length ∧ (∀ (i : Nat) (c : AV) (u : Value), caps[i]? = some c → vs[i]? = some u → Rel (ybn B ok0 lv w) w lv c u) ∧ (execOp a.eval o).run P w = .ok (.enter f (args.map a.eval ++ vs).toArray) w := by
 rcases hg with hg | ⟨hg, rfl⟩
 ·have hfr := hs.eval hg
  generalize hv : a.eval g = v at hfr
  cases hfr with
  | fn vs hl hrc =>
  refine ⟨vs, hl, hrc, ?_⟩
  unfold execOp
  simp only [ho, resolve, Deferred.ofValue, hv, Sem.run_bind, Sem.run_pure, Result.andThen_ok, invoke]
  rw [ykb hb]
  simp
 ·have hfr := hs.eval hg
  generalize hv : a.eval g = v at hfr
  cases hfr with
  | fm vs hl hrc =>
  refine ⟨vs, hl, hrc, ?_⟩
  unfold execOp
  simp only [ho, resolve, Deferred.ofValue, hv, Sem.run_bind, Sem.run_pure, Result.andThen_ok, invoke]
  rw [ykb hb]
  simp
theorem yoh {o : Oper} {g : Operand} {args : List Operand} {ats : Array TypeId} {f : FuncId} {caps xs args0 : List AV} {hm hm' : Nat → Option LObj} {r : AV} {σ : Nat → Nat} {ids : List Nat} {d : Nat} {s s2 : SS}
  (ho : o.op = .call { callee := .value g, args := args.toArray, argTypes := ats }) (hd : o.dst = some d) (hdN : d < N) (hg : yzf (evF s.t g) f caps args) (hx : evL (evF s.t) args = some xs) (hargs : xs ++ caps = args0.map (yff σ)) (hc : yva P f args0 hm r hm')
  (hinj : ∀ i ∈ ids, ∀ j ∈ ids, σ i = σ j → i = j) (hdom : ∀ id, (hm id).isSome → id ∈ ids) (hdom' : ∀ id, (hm' id).isSome → id ∈ ids) (hmem : ∀ id o, hm id = some o → s.h (σ id) = some (yyy σ o)) (hr : yen ids r = true) (hro : ∀ id o, hm' id = some o → yqq ids o = true)
  (ht : ∀ x y, s2.t x = some y → (x = d ∧ y = yff σ r) ∨ (x ≠ d ∧ ((y = .any ∧ ∃ z, s.t x = some z) ∨ (s.t x = some y ∧ zuu σ ids hm' y))))
  (hh1 : ∀ i ∈ ids, s2.h (σ i) = (hm' i).map (yyy σ)) (hh2 : ∀ j ob', (∀ i ∈ ids, σ i ≠ j) → s2.h j = some ob' → (∀ i ∈ ids, yfv (σ i) ob' = false) ∧ ∃ ob, s.h j = some ob ∧ ylr ob ob') : ych P N o s (· = s2) := by
 intro B ok0 lv a w hs Q
 have har := ysv (a := a) args xs (fun x y _ hxy => hs.eval hxy) hx
 obtain ⟨vs, hl, hrc, hrun⟩ := callee_run hs ho hc.1 hg
 let lv1 : Live := fun id => if id ∈ ids ∧ (hm id).isSome then lv (σ id) else none
 have hl1 : ∀ id b n, lv1 id = some (b, n) → id ∈ ids ∧ (hm id).isSome ∧ lv (σ id) = some (b, n) := by
  intro id b n hb
  simp only [lv1] at hb
  split at hb
  ·rename_i h; exact ⟨h.1, h.2, hb⟩
  ·cases hb
 have hl2 : ∀ id b n, lv1 id = some (b, n) → lv (σ id) = some (b, n) := fun id b n h => (hl1 id b n h).2.2
 have hmine : ∀ b, ypq lv1 b → B.mine b ∧ b < w.heap.size ∧ ∃ i ∈ ids, ∃ n, lv (σ i) = some (some b, n) := by
  rintro b ⟨id, n, hb⟩
  obtain ⟨h1, h2, h3⟩ := hl1 id _ n hb
  obtain ⟨_, _, h4, h5, _⟩ := hs.inv.lvat h3
  exact ⟨h4, h5, id, h1, n, h3⟩
 have hok1 : ∀ g, ybn B ok0 lv w g → ybn (yfr w lv1) (ybn B ok0 lv w) lv1 w g := fun g hg => ⟨.inl hg, hg.2.1, fun id b n hb => hg.2.2 (σ id) b n (hl2 id _ n hb)⟩
 have hinv : Inv (yfr w lv1) (ybn B ok0 lv w) hm lv1 w := by
  refine ⟨⟨rfl, rfl, rfl, Nat.le_refl _, fun _ _ _ => rfl, hs.inv.base.glob, hs.inv.base.glob.size, fun k hk => hs.inv.base.mineG (hmine k hk).1, fun l h => by cases h⟩, fun g hg => hg.2.1, fun id hid => by simp [lv1, hid], fun i j b n m h1 h2 => ?_, fun id x hx => ?_⟩
  ·obtain ⟨q1, _, q2⟩ := hl1 _ _ _ h1
   obtain ⟨r1, _, r2⟩ := hl1 _ _ _ h2
   exact hinj i q1 j r1 (hs.inv.inj _ _ b n m q2 r2)
  ·obtain ⟨b, n, h1, h2⟩ := hs.inv.obj (σ id) _ (hmem id x hx)
   have hlv : lv1 id = some (b, n) := by simp [lv1, hdom id (by simp [hx]), hx, h1]
   refine ⟨b, n, hlv, ?_⟩
   cases b with
   | none => exact zlb h2
   | some b => exact ⟨.inl ⟨id, n, hlv⟩, h2.2.1, ygl.unren hl2 hok1 h2.2.2⟩
 have hall : yca (ybn (yfr w lv1) (ybn B ok0 lv w) lv1 w) w lv1 args0 (args.map a.eval ++ vs) := by
  have hlen : (args.map a.eval ++ vs).length = args0.length := by
   have := congrArg List.length hargs
   simp only [List.length_append, List.length_map] at this ⊢
   have := har.1
   simp at this
   omega
  refine ⟨hlen, fun i x u hx hu => ?_⟩
  have hxi : (xs ++ caps)[i]? = some (yff σ x) := by rw [hargs]; simp [hx]
  have hrel : Rel (ybn B ok0 lv w) w lv (yff σ x) u := by
   by_cases hlt : i < xs.length
   ·rw [List.getElem?_append_left hlt] at hxi
    rw [List.getElem?_append_left (by rw [har.1]; exact hlt)] at hu
    exact har.2 i _ u hxi hu
   ·rw [List.getElem?_append_right (by omega)] at hxi
    rw [List.getElem?_append_right (by rw [har.1]; omega), har.1] at hu
    exact hrc _ _ u hxi hu
  exact (Rel.unren hl2 hrel).keep fun g hg => ⟨hok1 g hg, rfl⟩
 unfold Oper.wp
 rw [hrun]
 refine (hc.2.2 (ybn B ok0 lv w) lv1 w (args.map a.eval ++ vs) hinv hall).mono fun e w' ⟨u, lv3, he, hu, hi3, hpin⟩ => ?_
 subst he
 simp only [hd]
 have hb3 := hi3.base
 -- the blocks that are not lent stay
 have hstay : ∀ k, k < w.heap.size → (∀ i ∈ ids, ∀ n, lv (σ i) ≠ some (some k, n)) → w'.heap[k]? = w.heap[k]? := by
  intro k hk hn
  exact hb3.block k hk fun hlent => by
   obtain ⟨_, _, i, hi, n, hn'⟩ := hmine k hlent
   exact hn i hi n hn'
 have hsz : w.heap.size ≤ w'.heap.size := hb3.size
 have hmine3 : ∀ id b n, lv3 id = some (some b, n) → B.mine b ∧ b < w'.heap.size ∧ (w.heap.size ≤ b ∨ ∃ i ∈ ids, ∃ n, lv (σ i) = some (some b, n)) := by
  intro id b n hb
  obtain ⟨_, _, q1, q2, _⟩ := hi3.lvat hb
  rcases q1 with q1 | q1
  ·have := hmine b q1
   exact ⟨this.1, q2, .inr this.2.2⟩
  ·exact ⟨.inr (Nat.le_trans hs.inv.base.size q1), q2, .inl q1⟩
 have hid3 : ∀ id b n, lv3 id = some (b, n) → id ∈ ids := fun id b n hb => by
  cases hq : hm' id with
  | none => rw [hi3.dom id hq] at hb; cases hb
  | some o => exact hdom' id (by simp [hq])
 let find : Nat → Option Nat := fun j => ids.find? fun i => σ i == j
 have hf1 : ∀ j i, find j = some i → i ∈ ids ∧ σ i = j := fun j i h => ⟨List.mem_of_find?_eq_some h, by simpa using List.find?_some h⟩
 have hf2 : ∀ i ∈ ids, find (σ i) = some i := fun i hi => by
  cases hq : find (σ i) with
  | none =>
   have := List.find?_eq_none.1 hq i hi
   simp at this
  | some k => obtain ⟨h1, h2⟩ := hf1 _ _ hq; rw [hinj k h1 i hi h2]
 have hf3 : ∀ j, find j = none → ∀ i ∈ ids, σ i ≠ j := fun j h i hi e => by
  have := List.find?_eq_none.1 h i hi
  simp [e] at this
 let lv2 : Live := fun j => match find j with
  | some i => lv3 i
  | none => if (s2.h j).isSome then lv j else none
 have hlv2a : ∀ i ∈ ids, lv2 (σ i) = lv3 i := fun i hi => by simp only [lv2, hf2 i hi]
 have hlv2b : ∀ j, (∀ i ∈ ids, σ i ≠ j) → ∀ b n, lv2 j = some (b, n) → lv j = some (b, n) ∧ (s2.h j).isSome := by
  intro j hj b n hb
  have hn : find j = none := by
   cases hq : find j with
   | none => rfl
   | some i => obtain ⟨h1, h2⟩ := hf1 _ _ hq; exact absurd h2 (hj i h1)
  simp only [lv2, hn] at hb
  split at hb
  ·rename_i h; exact ⟨hb, h⟩
  ·cases hb
 have hcase : ∀ j, (∃ i ∈ ids, σ i = j) ∨ ∀ i ∈ ids, σ i ≠ j := fun j => by
  cases hq : find j with
  | none => exact .inr (hf3 j hq)
  | some i => obtain ⟨h1, h2⟩ := hf1 _ _ hq; exact .inl ⟨i, h1, h2⟩
 have hok2 : ∀ g, ybn B ok0 lv w g → ybn B ok0 lv2 w' g ∧ w'.heap[g]? = w.heap[g]? := by
  intro g hg
  refine ⟨⟨hg.1, Nat.lt_of_lt_of_le hg.2.1 hsz, fun j b n hb => ?_⟩, hstay g hg.2.1 fun i _ n hn => hg.2.2 _ _ n hn rfl⟩
  rcases hcase j with ⟨i, hi, rfl⟩ | hj
  ·rw [hlv2a i hi] at hb
   rcases (hmine3 i b n hb).2.2 with h | ⟨i', _, n', h⟩
   ·have := hg.2.1; omega
   ·exact hg.2.2 _ _ n' h
  ·exact hg.2.2 j b n (hlv2b j hj _ n hb).1
 have hok3 : ∀ g, ybn (yfr w lv1) (ybn B ok0 lv w) lv3 w' g → ybn B ok0 lv2 w' g := by
  intro g hg
  refine ⟨?_, hg.2.1, fun j b n hb => ?_⟩
  ·rcases hg.1 with h | h | h
   ·exact h.1
   ·exact .inr (hmine g h).1
   ·exact .inr (.inr (Nat.le_trans hs.inv.base.size h))
  ·rcases hcase j with ⟨i, hi, rfl⟩ | hj
   ·rw [hlv2a i hi] at hb
    exact hg.2.2 i b n hb
   ·obtain ⟨hb', _⟩ := hlv2b j hj _ n hb
    have hlt := hs.inv.lvlt hb'
    rintro rfl
    rcases hg.1 with h | h | h
    ·exact h.2.2 j b n hb' rfl
    ·obtain ⟨_, _, i, hi, n', hn'⟩ := hmine b h
     exact hj i hi (hs.inv.inj _ _ b n' n hn' hb')
    ·simp only [yfr] at h; omega
 have hren : ∀ id b n, id ∈ ids → lv2 (σ id) = some (b, n) → lv3 id = some (b, n) := fun id b n hi hb => by rwa [hlv2a id hi] at hb
 have hframe : ∀ (y : AV) (z : Value), (∀ i ∈ ids, ment (σ i) y = false) → Rel (ybn B ok0 lv w) w lv y z → Rel (ybn B ok0 lv2 w') w' lv2 y z := by
  intro y z hy hz
  refine (hz.relive fun j b n hb hm => ?_).keep hok2
  rcases hcase j with ⟨i, hi, rfl⟩ | hj
  ·rw [hy i hi] at hm; cases hm
  ·exact (hlv2b j hj b n hb).1
 refine ⟨s2, lv2, rfl, ⟨⟨?_, hs.inv.ok0lt, fun j hj => ?_, fun i j b n m h1 h2 => ?_, fun j x hx => ?_⟩, by simp [Act.put, hs.size], fun x y hy => ?_, hs.defers.same (fun g hg => (hstay g (Array.getElem?_eq_some_iff.1 hg).1 fun i hi n hn => (hs.inv.lvat hn).choose_spec.2.2.2.notDef hg).trans hg), hs.big, fun j b ws hN hj hcj hb => ?_⟩⟩
 ·-- base
  refine ⟨hb3.os.trans hs.inv.base.os, hb3.tape.trans hs.inv.base.tape, hb3.output.trans hs.inv.base.output, Nat.le_trans hs.inv.base.size hsz, fun k hk hnl => ?_, hb3.glob, hs.inv.base.gsize, hs.inv.base.lentG, hs.inv.base.rdok⟩
  refine (hstay k (Nat.lt_of_lt_of_le hk hs.inv.base.size) fun i hi n hn => ?_).trans (hs.inv.base.block k hk hnl)
  obtain ⟨_, _, q1, _, _⟩ := hs.inv.lvat hn
  rcases q1 with q1 | q1
  ·exact hnl q1
  ·omega
 ·-- dom
  rcases hcase j with ⟨i, hi, rfl⟩ | hj'
  ·rw [hlv2a i hi]
   refine hi3.dom i ?_
   rw [hh1 i hi] at hj
   cases hq : hm' i with
   | none => rfl
   | some o => simp [hq] at hj
  ·cases hq : lv2 j with
   | none => rfl
   | some q => obtain ⟨q1, q2⟩ := q; have := (hlv2b j hj' q1 q2 hq).2; simp [hj] at this
 ·-- inj
  rcases hcase i with ⟨i', hi, rfl⟩ | hi <;> rcases hcase j with ⟨j', hj, rfl⟩ | hj
  ·rw [hlv2a i' hi] at h1
   rw [hlv2a j' hj] at h2
   rw [hi3.inj i' j' b n m h1 h2]
  ·rw [hlv2a i' hi] at h1
   have h2' := (hlv2b j hj _ m h2).1
   have := hs.inv.lvlt h2'
   rcases (hmine3 i' b n h1).2.2 with h | ⟨k, hk, n', h⟩
   ·omega
   ·exact absurd (hs.inv.inj _ _ b n' m h h2') (hj k hk)
  ·rw [hlv2a j' hj] at h2
   have h1' := (hlv2b i hi _ n h1).1
   have := hs.inv.lvlt h1'
   rcases (hmine3 j' b m h2).2.2 with h | ⟨k, hk, n', h⟩
   ·omega
   ·exact absurd (hs.inv.inj _ _ b n' n h h1') (hi k hk)
  ·exact hs.inv.inj i j b n m (hlv2b i hi _ n h1).1 (hlv2b j hj _ m h2).1
 ·-- objects
  rcases hcase j with ⟨i, hi, rfl⟩ | hj
  ·rw [hh1 i hi] at hx
   cases hq : hm' i with
   | none => simp [hq] at hx
   | some ob =>
    simp only [hq, Option.map_some, Option.some.injEq] at hx
    subst hx
    obtain ⟨b, n, q1, q2⟩ := hi3.obj i ob hq
    refine ⟨b, n, by rw [hlv2a i hi]; exact q1, ?_⟩
    cases b with
    | none =>
     simp only [yha] at q2 ⊢
     rcases q2 with rfl | ⟨e, rfl⟩
     ·exact .inl rfl
     ·exact .inr ⟨e, rfl⟩
    | some b =>
     exact ⟨(hmine3 i b n q1).1, q2.2.1, ygl.ren hren (hro i ob hq) hok3 q2.2.2⟩
  ·obtain ⟨hm1, ob, hob, hfo⟩ := hh2 j x hj hx
   obtain ⟨b, n, q1, q2⟩ := hs.inv.obj j ob hob
   have hlv2 : lv2 j = some (b, n) := by
    have hn : find j = none := by
     cases hq : find j with
     | none => rfl
     | some i => obtain ⟨h1, h2⟩ := hf1 _ _ hq; exact absurd h2 (hj i h1)
    simp [lv2, hn, hx, q1]
   refine ⟨b, n, hlv2, ?_⟩
   cases b with
   | none =>
    simp only [yha] at q2 ⊢
    rcases hfo with rfl | ⟨_, _, rfl, _⟩ | ⟨_, _, _, rfl, _⟩
    ·exact q2
    ·simp at q2
    ·simp at q2
   | some b =>
    obtain ⟨q3, q4, q5⟩ := q2
    have hbk : w'.heap[b]? = w.heap[b]? := hstay b q4 fun i hi n' hn' => hj i hi (hs.inv.inj _ _ b n' n hn' q1)
    refine ⟨q3, Nat.lt_of_lt_of_le q4 hsz, ?_⟩
    rcases hfo with rfl | ⟨zs, ys, rfl, rfl, hyl, hyz⟩ | ⟨te, zs, ys, rfl, rfl, hyl, hyz⟩
    ·refine (q5.relive (lv' := lv2) fun k b' n' hb' hmk => ?_).keep hok2 hbk
     rcases hcase k with ⟨i, hi, rfl⟩ | hk
     ·rw [hm1 i hi] at hmk; cases hmk
     ·exact (hlv2b k hk b' n' hb').1
    ·obtain ⟨c, e, g1, g2, g3, g4, g5⟩ := q5
     refine ⟨c, e, by rw [hbk]; exact g1, g2, by omega, fun y hy => ?_, fun k y z hy hz => ?_⟩
     ·obtain ⟨k, hk⟩ := List.getElem?_of_mem hy
      obtain ⟨x, hx⟩ : ∃ x, zs[k]? = some x := ⟨_, List.getElem?_eq_getElem (by have := (List.getElem?_eq_some_iff.1 hk).1; omega)⟩
      rcases hyz k x y hx hk with rfl | rfl
      ·exact g4 _ (List.mem_of_getElem? hx)
      ·rfl
     ·obtain ⟨x, hx⟩ : ∃ x, zs[k]? = some x := ⟨_, List.getElem?_eq_getElem (by have := (List.getElem?_eq_some_iff.1 hy).1; omega)⟩
      rcases hyz k x y hx hy with rfl | rfl
      ·refine hframe _ z (fun i hi => ?_) (g5 k _ z hx hz)
       exact yfd hy (hm1 i hi)
      ·exact .one _ ((g5 k x z hx hz).oneCell (g4 x (List.mem_of_getElem? hx)))
    ·obtain ⟨⟨c, e, g1, g2, g3, g4, g5⟩, hsh⟩ := q5
     refine ⟨⟨c, e, by rw [hbk]; exact g1, g2, by omega, fun y hy => ?_, fun k y z hy hz => ?_⟩, by rw [hyl]; exact (yhq hbk).trans hsh⟩
     ·obtain ⟨k, hk⟩ := List.getElem?_of_mem hy
      obtain ⟨x, hx⟩ : ∃ x, zs[k]? = some x := ⟨_, List.getElem?_eq_getElem (by have := (List.getElem?_eq_some_iff.1 hk).1; omega)⟩
      rcases hyz k x y hx hk with rfl | rfl
      ·exact g4 _ (List.mem_of_getElem? hx)
      ·rfl
     ·obtain ⟨x, hx⟩ : ∃ x, zs[k]? = some x := ⟨_, List.getElem?_eq_getElem (by have := (List.getElem?_eq_some_iff.1 hy).1; omega)⟩
      rcases hyz k x y hx hy with rfl | rfl
      ·refine hframe _ z (fun i hi => ?_) (g5 k _ z hx hz)
       exact yfd hy (hm1 i hi)
      ·exact .one _ ((g5 k x z hx hz).oneCell (g4 x (List.mem_of_getElem? hx)))
 ·-- frame
  rcases ht x y hy with ⟨rfl, rfl⟩ | ⟨hxd, hxy⟩
  ·have hbig := hs.big
   refine ⟨.inl hdN, ?_⟩
   rw [yfg, if_pos (Nat.lt_of_lt_of_le hdN hbig)]
   simp only [Act.put]
   rw [show (a.tmps.setIfInBounds x u).getD x undef = u by simp [Array.getD, hs.size, hdN]]
   exact (Rel.ren hren hr hu).keep fun g hg => ⟨hok3 g hg, rfl⟩
  ·have hval : yfg B (a.put (some d) u) x = yfg B a x := by
    unfold yfg
    split
    ·simp only [Act.put, Array.getD_eq_getD_getElem?, Array.getElem?_setIfInBounds]
     rw [if_neg (by omega)]
    ·rfl
   rw [hval]
   rcases hxy with ⟨rfl, z, hz⟩ | ⟨hz, hk⟩
   ·exact ⟨(hs.frame x z hz).1, .any _⟩
   ·refine ⟨(hs.frame x y hz).1, ?_⟩
    have hold := (hs.frame x y hz).2
    rcases hk with hk | ⟨i, hi, off, o', hye, hci, hcc⟩
    ·exact hframe y _ hk hold
    ·have hlp : ∀ z : Value, Rel (ybn B ok0 lv w) w lv (.lp (σ i) off) z → Rel (ybn B ok0 lv2 w') w' lv2 (.lp (σ i) off) z := fun z hz => by
      cases hz with
      | lp _ h1 h2 =>
       refine .lp _ h1 fun b n hb => ?_
       rw [hlv2a i hi] at hb
       obtain ⟨b', n', n'', p1, p2⟩ := hpin i o' hci hcc
       rw [hb] at p2
       cases p2
       exact h2 b n' (hl2 i _ n' p1)
     rcases hye with rfl | ⟨f', rfl⟩
     ·exact hlp _ hold
     ·generalize yfg B a x = z at hold
      cases hold with
      | fm vs hvl hvr =>
       refine .fm vs hvl fun k c u h1 h2 => ?_
       have h3 := hvr k c u h1 h2
       match k, h1 with
       | 0, h1 =>
        simp only [List.getElem?_cons_zero, Option.some.injEq] at h1
        subst h1
        exact hlp _ h3
       | k + 1, h1 => simp at h1
 ·-- pins
  rcases hcase j with ⟨i, hi, rfl⟩ | hj'
  ·rw [hh1 i hi] at hj
   cases hq : hm' i with
   | none => simp [hq] at hj
   | some ob =>
    simp only [hq, Option.map_some, Option.some.injEq] at hj
    subst hj
    rw [yvs] at hcj
    obtain ⟨b', n', n'', p1, p2⟩ := hpin i ob hq hcj
    obtain ⟨zs, hz, hzc⟩ := hc.2.1 i ob hq hcj
    obtain ⟨n, hn⟩ := hs.pin (σ i) b _ hN (hmem i _ hz) (by rw [yvs]; exact hzc) hb
    rw [hl2 i _ n' p1] at hn
    cases hn
    exact ⟨n'', by rw [hlv2a i hi]; exact p2⟩
  ·obtain ⟨_, ob, hys, hfo⟩ := hh2 j _ hj' hj
   have hcc : isC ob = true := by
    rcases hfo with rfl | ⟨xs', ys', rfl, _, _⟩ | ⟨e, xs', ys', rfl, _, _⟩
    ·exact hcj
    ·rfl
    ·rfl
   obtain ⟨n, hn⟩ := hs.pin j b ob hN hys hcc hb
   obtain ⟨b2, n2, q1, _⟩ := hs.inv.obj j _ hys
   rw [hn] at q1
   cases q1
   have hn' : find j = none := by
    cases hq : find j with
    | none => rfl
    | some i => obtain ⟨h1, h2⟩ := hf1 _ _ hq; exact absurd h2 (hj' i h1)
   exact ⟨n, by simp [lv2, hn', hj, hn]⟩
end
def yeu : List (Nat × Nat) → Nat → Nat
 | [], i => i
 | (k, j) :: sg, i => match Nat.beq i k with
  | true => j
  | false => yeu sg i
def ybm : List (Nat × Nat) → List Nat
 | [] => []
 | (k, _) :: sg => k :: ybm sg
def ycj : List (Nat × Nat) → List Nat
 | [] => []
 | (_, j) :: sg => j :: ycj sg
def ylg (i : Nat) : List Nat → Bool
 | [] => false
 | k :: l => match Nat.beq i k with
  | true => true
  | false => ylg i l
def yef : List Nat → Bool
 | [] => true
 | k :: l => match ylg k l with
  | true => false
  | false => yef l
theorem yej {i : Nat} : ∀ {l : List Nat}, ylg i l = true ↔ i ∈ l
 | [] => by simp [ylg]
 | k :: l => by
  simp only [ylg, List.mem_cons]
  cases h : Nat.beq i k with
  | true => simp [Nat.eq_of_beq_eq_true h]
  | false =>
   have : i ≠ k := fun e => by subst e; simp at h
   simp [this, yej (l := l)]
theorem yjl {sg : List (Nat × Nat)} {i : Nat} (h : i ∈ ybm sg) : yeu sg i ∈ ycj sg := by
 induction sg with
 | nil => simp [ybm] at h
 | cons q sg ih =>
  obtain ⟨k, j⟩ := q
  simp only [yeu, ycj]
  cases hb : Nat.beq i k with
  | true => simp
  | false =>
   have hne : i ≠ k := fun e => by subst e; simp at hb
   simp only [ybm, List.mem_cons, hne, false_or] at h
   simp [ih h]
theorem yyi {sg : List (Nat × Nat)} (h : yef (ycj sg) = true) : ∀ i ∈ ybm sg, ∀ j ∈ ybm sg, yeu sg i = yeu sg j → i = j := by
 induction sg with
 | nil => intro i hi; simp [ybm] at hi
 | cons q sg ih =>
  obtain ⟨k, v⟩ := q
  simp only [ycj, yef] at h
  cases hv : ylg v (ycj sg) with
  | true => simp [hv] at h
  | false =>
   simp only [hv] at h
   have hnv : v ∉ ycj sg := fun hm => by rw [yej.2 hm] at hv; cases hv
   intro i hi j hj he
   simp only [yeu] at he
   cases hik : Nat.beq i k <;> cases hjk : Nat.beq j k <;> simp only [hik, hjk] at he
   ·have h1 : i ≠ k := fun e => by subst e; simp at hik
    have h2 : j ≠ k := fun e => by subst e; simp at hjk
    simp only [ybm, List.mem_cons, h1, h2, false_or] at hi hj
    exact ih h i hi j hj he
   ·have h1 : i ≠ k := fun e => by subst e; simp at hik
    simp only [ybm, List.mem_cons, h1, false_or] at hi
    exact absurd (he ▸ yjl hi) hnv
   ·have h2 : j ≠ k := fun e => by subst e; simp at hjk
    simp only [ybm, List.mem_cons, h2, false_or] at hj
    exact absurd (he ▸ yjl hj) hnv
   ·rw [Nat.eq_of_beq_eq_true hik, Nat.eq_of_beq_eq_true hjk]
theorem ytp {sg : List (Nat × Nat)} {j : Nat} (h : j ∈ ycj sg) (hk : yef (ybm sg) = true) : ∃ i ∈ ybm sg, yeu sg i = j := by
 induction sg with
 | nil => simp [ycj] at h
 | cons q sg ih =>
  obtain ⟨k, v⟩ := q
  simp only [ybm, yef] at hk
  cases hm : ylg k (ybm sg) with
  | true => simp [hm] at hk
  | false =>
   simp only [hm] at hk
   simp only [ycj, List.mem_cons] at h
   rcases h with rfl | h
   ·exact ⟨k, by simp [ybm], by simp [yeu]⟩
   ·obtain ⟨i, hi, he⟩ := ih h hk
    refine ⟨i, by simp [ybm, hi], ?_⟩
    have : i ≠ k := fun e => by subst e; rw [yej.2 hi] at hm; cases hm
    simp only [yeu, ydm this]
    exact he
def yss (ids : List Nat) : List (Nat × Option LObj) → Bool
 | [] => true
 | (k, _) :: h => ylg k ids && yss ids h
theorem yhd {ids : List Nat} : ∀ {h : List (Nat × Option LObj)}, yss ids h = true → ∀ id, (yad h id).isSome → id ∈ ids
 | [], _, id, hs => by simp [yad] at hs
 | (k, o) :: h, hd, id, hs => by
  simp only [yss, Bool.and_eq_true] at hd
  simp only [yad] at hs
  cases hb : Nat.beq id k with
  | true => rw [Nat.eq_of_beq_eq_true hb]; exact yej.1 hd.1
  | false => simp only [hb] at hs; exact yhd hd.2 id hs
def zmk (sg : List (Nat × Nat)) : List (Nat × Option LObj) → List (Nat × Option LObj)
 | [] => []
 | (k, some o) :: h => (yeu sg k, some (yyy (yeu sg) o)) :: zmk sg h
 | (k, none) :: h => (yeu sg k, none) :: zmk sg h
theorem ysa {sg : List (Nat × Nat)} {h : List (Nat × Option LObj)} : ∀ {hs : List (Nat × Option LObj)}, yus h (zmk sg hs) → ∀ id o, yad hs id = some o → yad h (yeu sg id) = some (yyy (yeu sg) o)
 | [], _, id, o, hl => by simp [yad] at hl
 | (k, x) :: hs, hsub, id, o, hl => by
  simp only [yad] at hl
  cases hb : Nat.beq id k with
  | true =>
   simp only [hb] at hl
   subst hl
   rw [Nat.eq_of_beq_eq_true hb]
   simp only [zmk, yus] at hsub
   exact hsub.1 _ rfl
  | false =>
   simp only [hb] at hl
   cases x with
   | none => simp only [zmk, yus] at hsub; exact ysa hsub.2 id o hl
   | some x => simp only [zmk, yus] at hsub; exact ysa hsub.2 id o hl
def ynp (ids : List Nat) : List (Nat × Option LObj) → Bool
 | [] => true
 | (_, some o) :: h => yqq ids o && ynp ids h
 | (_, none) :: h => ynp ids h
theorem yji {ids : List Nat} : ∀ {h : List (Nat × Option LObj)}, ynp ids h = true → ∀ id o, yad h id = some o → yqq ids o = true
 | [], _, id, o, hl => by simp [yad] at hl
 | (k, x) :: h, ho, id, o, hl => by
  simp only [yad] at hl
  cases hb : Nat.beq id k with
  | true =>
   simp only [hb] at hl
   subst hl
   simp only [ynp, Bool.and_eq_true] at ho
   exact ho.1
  | false =>
   simp only [hb] at hl
   cases x with
   | none => exact yji (by simpa [ynp] using ho) id o hl
   | some x => simp only [ynp, Bool.and_eq_true] at ho; exact yji ho.2 id o hl
def yng (sg : List (Nat × Nat)) (hs' : List (Nat × Option LObj)) : List (Nat × Nat) → List (Nat × Option LObj)
 | [] => []
 | (k, j) :: r => (j, match yad hs' k with
  | some o => some (yyy (yeu sg) o)
  | none => none) :: yng sg hs' r
theorem yve {sg : List (Nat × Nat)} {hs' h : List (Nat × Option LObj)} : ∀ {l : List (Nat × Nat)}, yef (ybm l) = true → yef (ycj l) = true → ∀ i ∈ ybm l, yad (yng sg hs' l ++ h) (yeu l i) = (yad hs' i).map (yyy (yeu sg))
 | [], _, _, i, hi => by simp [ybm] at hi
 | (k, j) :: l, h1, h2, i, hi => by
  simp only [ybm, yef] at h1
  cases hm : ylg k (ybm l) with
  | true => simp [hm] at h1
  | false =>
  simp only [hm] at h1
  simp only [ycj, yef] at h2
  cases hm2 : ylg j (ycj l) with
  | true => simp [hm2] at h2
  | false =>
  simp only [hm2] at h2
  simp only [yeu]
  cases hb : Nat.beq i k with
  | true =>
   have e := Nat.eq_of_beq_eq_true hb
   subst e
   simp only [yng, List.cons_append, yad, Nat.beq_refl]
   cases yad hs' i <;> rfl
  | false =>
   have hne : i ≠ k := fun e => by subst e; simp at hb
   simp only [ybm, List.mem_cons, hne, false_or] at hi
   have hv := yjl hi
   have hnj : yeu l i ≠ j := fun e => by rw [e] at hv; rw [yej.2 hv] at hm2; cases hm2
   simp only [yng, List.cons_append, yad, ydm hnj]
   exact yve h1 h2 i hi
theorem ylv {sg : List (Nat × Nat)} {hs' h : List (Nat × Option LObj)} : ∀ {l : List (Nat × Nat)} {j : Nat}, j ∉ ycj l → yad (yng sg hs' l ++ h) j = yad h j
 | [], j, _ => rfl
 | (k, v) :: l, j, hj => by
  simp only [ycj, List.mem_cons, not_or] at hj
  simp only [yng, List.cons_append, yad, ydm hj.1]
  exact ylv hj.2
def yud : List Nat → List (Nat × Option LObj) → Option (List (Nat × Option LObj))
 | [], h => some h
 | i :: l, h => match ypf i h with
  | some h' => yud l h'
  | none => none
theorem ylr.trans {a b c : LObj} (h1 : ylr a b) (h2 : ylr b c) : ylr a c := by
 rcases h1 with rfl | ⟨xs, ys, rfl, rfl, hl, hxy⟩ | ⟨te, xs, ys, rfl, rfl, hl, hxy⟩
 ·exact h2
 ·rcases h2 with rfl | ⟨xs', zs, e, rfl, hl', hyz⟩ | ⟨_, _, _, e, _⟩
  ·exact .inr (.inl ⟨xs, ys, rfl, rfl, hl, hxy⟩)
  ·cases e
   refine .inr (.inl ⟨xs, zs, rfl, rfl, by omega, fun j x z hx hz => ?_⟩)
   obtain ⟨y, hy⟩ : ∃ y, ys[j]? = some y := ⟨_, List.getElem?_eq_getElem (by have := (List.getElem?_eq_some_iff.1 hx).1; omega)⟩
   rcases hyz j y z hy hz with rfl | rfl
   ·exact hxy j x _ hx hy
   ·exact .inr rfl
  ·cases e
 ·rcases h2 with rfl | ⟨_, _, e, _⟩ | ⟨te', xs', zs, e, rfl, hl', hyz⟩
  ·exact .inr (.inr ⟨te, xs, ys, rfl, rfl, hl, hxy⟩)
  ·cases e
  ·cases e
   refine .inr (.inr ⟨te, xs, zs, rfl, rfl, by omega, fun j x z hx hz => ?_⟩)
   obtain ⟨y, hy⟩ : ∃ y, ys[j]? = some y := ⟨_, List.getElem?_eq_getElem (by have := (List.getElem?_eq_some_iff.1 hx).1; omega)⟩
   rcases hyz j y z hy hz with rfl | rfl
   ·exact hxy j x _ hx hy
   ·exact .inr rfl
theorem zkl {i : Nat} : ∀ {zs : List AV}, ment.mentL i zs = true → ∃ (j : Nat) (z : AV), zs[j]? = some z ∧ ment i z = true
 | [], h => by simp [ment.mentL] at h
 | z :: zs, h => by
  simp only [ment.mentL, Bool.or_eq_true] at h
  rcases h with h | h
  ·exact ⟨0, z, rfl, h⟩
  ·obtain ⟨j, y, h1, h2⟩ := zkl h
   exact ⟨j + 1, y, by simpa using h1, h2⟩
theorem zam {i : Nat} {xs ys : List AV} (hl : ys.length = xs.length) (hxy : ∀ (j : Nat) (x y : AV), xs[j]? = some x → ys[j]? = some y → y = x ∨ y = .one) (hm : ment.mentL i xs = false) : ment.mentL i ys = false := by
 cases hq : ment.mentL i ys with
 | false => rfl
 | true =>
  exfalso
  obtain ⟨j, y, hy, hmy⟩ := zkl hq
  obtain ⟨x, hx⟩ : ∃ x, xs[j]? = some x := ⟨_, List.getElem?_eq_getElem (by have := (List.getElem?_eq_some_iff.1 hy).1; omega)⟩
  rcases hxy j x y hx hy with rfl | rfl
  ·rw [yfd hx hm] at hmy; cases hmy
  ·simp [ment] at hmy
theorem forgO_ment {a b : LObj} {i : Nat} (h : ylr a b) (hm : yfv i a = false) : yfv i b = false := by
 rcases h with rfl | ⟨xs, ys, rfl, rfl, hl, hxy⟩ | ⟨te, xs, ys, rfl, rfl, hl, hxy⟩
 ·exact hm
 ·exact zam hl hxy hm
 ·exact zam hl hxy hm
theorem yqk : ∀ {l : List Nat} {h h' : List (Nat × Option LObj)}, yud l h = some h' → ∀ j ob', yad h' j = some ob' → (∀ i ∈ l, yfv i ob' = false) ∧ ∃ ob, yad h j = some ob ∧ ylr ob ob'
 | [], h, h', he, j, ob', hj => by simp only [yud, Option.some.injEq] at he; subst he; exact ⟨by simp, ob', hj, .inl rfl⟩
 | i :: l, h, h', he, j, ob', hj => by
  simp only [yud] at he
  split at he
  ·rename_i h1 hh
   obtain ⟨g1, ob1, g2, g3⟩ := yqk he j ob' hj
   obtain ⟨g4, ob, g5, g6⟩ := yfi hh j ob1 g2
   refine ⟨fun k hk => ?_, ob, g5, g6.trans g3⟩
   rcases List.mem_cons.1 hk with rfl | hk
   ·exact forgO_ment g3 g4
   ·exact g1 k hk
  ·cases he
def yxn (l : List Nat) (y : AV) : Bool := match l with
 | [] => false
 | i :: l => match ment i y with
  | true => true
  | false => yxn l y
theorem yum : ∀ {l : List Nat} {y : AV}, yxn l y = false → ∀ i ∈ l, ment i y = false
 | [], y, _, i, hi => by simp at hi
 | k :: l, y, h, i, hi => by
  simp only [yxn] at h
  cases hk : ment k y with
  | true => simp [hk] at h
  | false =>
   simp only [hk] at h
   rcases List.mem_cons.1 hi with rfl | hi
   ·exact hk
   ·exact yum h i hi
def zhz : Option LObj → Bool
 | some o => isC o
 | none => false
def yzw (hs' : List (Nat × Option LObj)) (j : Nat) : List (Nat × Nat) → Bool
 | [] => false
 | (k, v) :: l => match Nat.beq v j with
  | true => zhz (yad hs' k)
  | false => yzw hs' j l
theorem yqi {hs' : List (Nat × Option LObj)} {j : Nat} : ∀ {l : List (Nat × Nat)}, yef (ybm l) = true → yzw hs' j l = true → ∃ i ∈ ybm l, yeu l i = j ∧ ∃ o, yad hs' i = some o ∧ isC o = true
 | [], _, h => by simp [yzw] at h
 | (k, v) :: l, hn, h => by
  simp only [ybm, yef] at hn
  cases hm : ylg k (ybm l) with
  | true => simp [hm] at hn
  | false =>
  simp only [hm] at hn
  simp only [yzw] at h
  cases hb : Nat.beq v j with
  | true =>
   simp only [hb] at h
   refine ⟨k, by simp [ybm], by simp [yeu, Nat.eq_of_beq_eq_true hb], ?_⟩
   cases hq : yad hs' k with
   | none => simp [hq, zhz] at h
   | some o => exact ⟨o, rfl, by simpa [hq, zhz] using h⟩
  | false =>
   simp only [hb] at h
   obtain ⟨i, h1, h2, h3⟩ := yqi hn h
   refine ⟨i, by simp [ybm, h1], ?_, h3⟩
   have : i ≠ k := fun e => by subst e; rw [yej.2 h1] at hm; cases hm
   simp only [yeu, ydm this]
   exact h2
def zoj (sg : List (Nat × Nat)) (hs' : List (Nat × Option LObj)) (y : AV) : Bool := match yxn (ycj sg) y with
 | false => true
 | true => match y with
  | .lp j _ => yzw hs' j sg
  | .fm _ [.lp j _] => yzw hs' j sg
  | _ => false
def yky (sg : List (Nat × Nat)) (hs' : List (Nat × Option LObj)) : List (Nat × AV) → List (Nat × AV)
 | [] => []
 | (s, x) :: t => match zoj sg hs' x with
  | true => (s, x) :: yky sg hs' t
  | false => (s, .any) :: yky sg hs' t
theorem ysz {sg : List (Nat × Nat)} {hs' : List (Nat × Option LObj)} {y : AV} (hn : yef (ybm sg) = true) (h : zoj sg hs' y = true) : zuu (yeu sg) (ybm sg) (yad hs') y := by
 unfold zoj at h
 cases hm : yxn (ycj sg) y with
 | false => exact .inl fun i hi => yum hm _ (yjl hi)
 | true =>
  simp only [hm] at h
  split at h
  ·rename_i j off
   obtain ⟨i, h1, h2, o, h3, h4⟩ := yqi hn h
   exact .inr ⟨i, h1, off, o, .inl (by rw [h2]), h3, h4⟩
  ·rename_i f j off
   obtain ⟨i, h1, h2, o, h3, h4⟩ := yqi hn h
   exact .inr ⟨i, h1, off, o, .inr ⟨f, by rw [h2]⟩, h3, h4⟩
  ·cases h
theorem yhe {sg : List (Nat × Nat)} {hs' : List (Nat × Option LObj)} : ∀ {t : List (Nat × AV)} {x : Nat} {y : AV}, look (yky sg hs' t) x = some y → (y = .any ∧ ∃ z, look t x = some z) ∨ (look t x = some y ∧ zoj sg hs' y = true)
 | [], x, y, h => by simp [yky, look] at h
 | (s, z) :: t, x, y, h => by
  simp only [yky] at h
  cases hk : zoj sg hs' z with
  | true =>
   simp only [hk, look] at h ⊢
   cases hb : Nat.beq x s with
   | true => simp only [hb, Option.some.injEq] at h ⊢; subst h; exact .inr ⟨rfl, hk⟩
   | false => simp only [hb] at h ⊢; exact yhe h
  | false =>
   simp only [hk, look] at h ⊢
   cases hb : Nat.beq x s with
   | true => simp only [hb, Option.some.injEq] at h ⊢; subst h; exact .inl ⟨rfl, z, rfl⟩
   | false => simp only [hb] at h ⊢; exact yhe h
section
variable {P : Program} {T : Nat → Option Ty} {N : Nat} {ops : Array Oper} {lf : Oper → Bool} {Q : SS → Prop} {t : List (Nat × AV)} {h : List (Nat × Option LObj)} {rest : List Oper} {d : Nat} {ty : TypeId} {pos : String} {af : Array Edge} {gd : Option (Nat × Bool)} {r : AV}
def zel (l : List Nat) : List (Nat × Option LObj) → List (Nat × Option LObj)
 | [] => []
 | (k, o) :: h => match ylg k l with
  | true => zel l h
  | false => (k, o) :: zel l h
theorem yvi {l : List Nat} {j : Nat} (hj : j ∉ l) : ∀ h : List (Nat × Option LObj), yad (zel l h) j = yad h j
 | [] => rfl
 | (k, o) :: h => by
  simp only [zel]
  cases hm : ylg k l with
  | true =>
   have hk : Nat.beq j k = false := ydm fun e => hj (e ▸ yej.1 hm)
   simp only [yad, hk]
   exact yvi hj h
  | false =>
   simp only [yad]
   cases Nat.beq j k with
   | true => rfl
   | false => exact yvi hj h
theorem L_callMG (sg : List (Nat × Nat)) {g : Operand} {args : List Operand} {ats : Array TypeId} {f : FuncId} {caps xs args0 : List AV} {hs hs' h' : List (Nat × Option LObj)} (hc : yva P f args0 (yad hs) r (yad hs')) (hg : yzf (evF (look t) g) f caps args) (hx : evL (evF (look t)) args = some xs) (hargs : xs ++ caps = args0.map (yff (yeu sg)))
  (hk : yef (ybm sg) = true) (hv : yef (ycj sg) = true) (hd1 : yss (ybm sg) hs = true) (hd2 : yss (ybm sg) hs' = true) (hsub : yus h (zmk sg hs)) (hr : yen (ybm sg) r = true) (ho : ynp (ybm sg) hs' = true) (hh : yud (ycj sg) (zel (ycj sg) h) = some h')
  (hl : lf ⟨some d, .call { callee := .value g, args := args.toArray, argTypes := ats }, ty, pos, af, gd⟩ = true) (hw : yaj ops (look t) ⟨some d, .call { callee := .value g, args := args.toArray, argTypes := ats }, ty, pos, af, gd⟩ = some true) (hd : Nat.blt d N = true)
  (k : Lex P N ops lf Q rest (S ((d, yff (yeu sg) r) :: yky sg hs' t) (yng sg hs' sg ++ h'))) : Lex P N ops lf Q (⟨some d, .call { callee := .value g, args := args.toArray, argTypes := ats }, ty, pos, af, gd⟩ :: rest) (S t h) := by
 refine yec hl hw ?_ k
 refine yoh (σ := yeu sg) (ids := ybm sg) rfl rfl (by simpa using hd) hg hx hargs hc (yyi hv) (yhd hd1) (yhd hd2) (ysa hsub) hr (yji ho) (fun x y hy => ?_) (fun i hi => yve hk hv i hi) (fun j ob' hj hob => ?_)
 ·simp only [S, look] at hy
  cases hb : Nat.beq x d with
  | true => simp only [hb, Option.some.injEq] at hy; exact .inl ⟨Nat.eq_of_beq_eq_true hb, hy.symm⟩
  | false =>
   simp only [hb] at hy
   refine .inr ⟨fun e => by subst e; simp at hb, ?_⟩
   rcases yhe hy with hq | ⟨h1, h2⟩
   ·exact .inl hq
   ·exact .inr ⟨h1, ysz hk h2⟩
 ·have hjv : j ∉ ycj sg := fun hm => by
   obtain ⟨i, h1, h2⟩ := ytp hm hk
   exact hj i h1 h2
  simp only [S, ylv hjv] at hob
  obtain ⟨h1, h2⟩ := yqk hh j ob' hob
  rw [yvi hjv] at h2
  exact ⟨fun i hi => h1 _ (yjl hi), h2⟩
theorem znd (sg : List (Nat × Nat)) {g : Operand} {args : List Operand} {ats : Array TypeId} {f : FuncId} {caps xs args0 : List AV} {hs hs' h' : List (Nat × Option LObj)} (hc : yva P f args0 (yad hs) r (yad hs')) (hg : evF (look t) g = some (.fn f caps)) (hx : evL (evF (look t)) args = some xs) (hargs : xs ++ caps = args0.map (yff (yeu sg)))
  (hk : yef (ybm sg) = true) (hv : yef (ycj sg) = true) (hd1 : yss (ybm sg) hs = true) (hd2 : yss (ybm sg) hs' = true) (hsub : yus h (zmk sg hs)) (hr : yen (ybm sg) r = true) (ho : ynp (ybm sg) hs' = true) (hh : yud (ycj sg) (zel (ycj sg) h) = some h')
  (hl : lf ⟨some d, .call { callee := .value g, args := args.toArray, argTypes := ats }, ty, pos, af, gd⟩ = true) (hw : yaj ops (look t) ⟨some d, .call { callee := .value g, args := args.toArray, argTypes := ats }, ty, pos, af, gd⟩ = some true) (hd : Nat.blt d N = true)
  (k : Lex P N ops lf Q rest (S ((d, yff (yeu sg) r) :: yky sg hs' t) (yng sg hs' sg ++ h'))) : Lex P N ops lf Q (⟨some d, .call { callee := .value g, args := args.toArray, argTypes := ats }, ty, pos, af, gd⟩ :: rest) (S t h) :=
 L_callMG sg hc (.inl hg) hx hargs hk hv hd1 hd2 hsub hr ho hh hl hw hd k
end
end
section
open Go.RowKit
section
variable {P : Program} {T : Nat → Option Ty} {N : Nat} {ops : Array Oper} {lf : Oper → Bool} {Q : SS → Prop} {t : List (Nat × AV)} {h : List (Nat × Option LObj)} {rest : List Oper} {d : Nat} {op : Op} {ty : TypeId} {pos : String} {af : Array Edge} {gd : Option (Nat × Bool)} {r : AV}
theorem ykp {ρ : Operand → Option AV} {hp : Nat → Option LObj} {x : Operand} {id off : Nat} {xs : List AV} (hx : ρ x = some (.lp id off)) (hh : ypn (hp id) = some xs) : ybw P hp ρ (.nilCheck x) ty (.lp id off) :=
 yas fun B ok0 lv w a o ho hty hi' hops => by
  have hr := hops x _ (by simp [Op.operands]) hx
  obtain ⟨g1, g2⟩ := yez hh
  obtain ⟨b, n, hb, hu, _⟩ := yga hi' g1 g2 hr
  exact ⟨a.eval x, by simp [execOp, ho, hu], hr⟩
theorem yil {x : Operand} {id off : Nat} {xs : List AV} (hx : evF (look t) x = some (.lp id off)) (hh : ypn (yad h id) = some xs) (hw : yaj ops (look t) ⟨some d, .nilCheck x, ty, pos, af, gd⟩ = some true) (hd : Nat.blt d N = true) (k : Lex P N ops lf Q rest (S ((d, .lp id off) :: t) h)) : Lex P N ops lf Q (⟨some d, .nilCheck x, ty, pos, af, gd⟩ :: rest) (S t h) :=
 ycf (ykp hx hh) hw hd k
end
end
set_option maxHeartbeats 4000000
section
open Go.RowKit
def roundT (t0 : Nat → Option AV) (ps : List Nat) (el : List AV) (x : Nat) : Option AV :=
 match Nat.ble 1000000 x with
 | true => t0 (x - 1000000)
 | false => match look (ps.zip el) x with
  | some y => some y
  | none => t0 x
def RndF (t0 : Nat → Option AV) (hk : Nat → Nat → Option LObj) (k : Nat) (Q : Exit → SS → Prop) : Exit → SS → Prop
 | .normal, s => (∀ x y, t0 x = some y → s.t (x + 1000000) = some y) ∧ ∀ id o, hk (k + 1) id = some o → s.h id = some o
 | .ret, s => ∃ hx : Nat → Option LObj, (∀ x y, t0 x = some y → s.t (x + 1000000) = some y) ∧ (∀ id o, hx id = some o → s.h id = some o) ∧ Q .ret ⟨t0, hx⟩
 | .exit i, s => ∃ hx : Nat → Option LObj, (∀ x y, t0 x = some y → s.t (x + 1000000) = some y) ∧ (∀ id o, hx id = some o → s.h id = some o) ∧ Q (.exit i) ⟨t0, hx⟩
 | _, _ => False
section
variable {P : Program} {N : Nat} {g : Operand} {ps : List Nat} {assign body : Code} {Q : Exit → SS → Prop} {s : SS} {gf : Nat} {caps : List AV} {els : List (List AV)}
def zql (B : Bse) (Bx : Bse) (okx : Nat → Prop) (N l : Nat) (rec : LoopState → Option Code → Loop) (t0 : Nat → Option AV) (vt : Nat → Value) (o : Loop) (h : Nat → Option LObj) (W : World) : Prop :=
 W.heap[l]? = some (.loop o) ∧ ∃ lv', Inv Bx okx h lv' (W.putObj l (.loop (rec .ready none))) ∧ (∀ x y, t0 x = some y → Rel (ybn Bx okx lv' (W.putObj l (.loop (rec .ready none)))) (W.putObj l (.loop (rec .ready none))) lv' y (vt x)) ∧
  ∀ id b o, N ≤ id → h id = some o → isC o = true → B.pin id = some b → ∃ n, lv' id = some (some b, n)
structure LoopAt (P : Program) (N : Nat) (ps : List Nat) (assign body : Code) (Q : Exit → SS → Prop) (t0 : Nat → Option AV) (caps : List AV) (ids : List Nat) (B Bx : Bse) (okx : Nat → Prop) (l : Nat) (rec : LoopState → Option Code → Loop) (vt : Nat → Value) (lv : Live) (lb : List Value) (W1 : World) : Prop where
 okLt : ∀ g, okx g → g < W1.heap.size
 len : lb.length = caps.length
 caps : ∀ (i : Nat) (c : AV) (u : Value), caps[i]? = some c → lb[i]? = some u → Rel okx W1 lv c u
 pin : ∀ id ∈ ids, ∃ b n, lv id = some (some b, n) ∧ B.pin id = some b
 pinx : ∀ x, Bx.pin x = none
 mx : ¬ Bx.mine l
 gl : GN ≤ l
 keep : ∀ o h W', zql B Bx okx N l rec t0 vt o h W' → W1.heap.size ≤ W'.heap.size ∧ ∀ g, okx g → W'.heap[g]? = W1.heap[g]?
 yield : ∀ (hk : Nat → Nat → Option LObj) (k : Nat) (el : List AV) (vs : List Value) (W : World), (el.length = ps.length ∧ ybf.pureL el = true) → A P N assign (fun e s1 => e = .normal ∧ A P N body (RndF t0 hk k Q) s1) ⟨roundT t0 ps el, hk k⟩ → zql B Bx okx N l rec t0 vt (rec .ready none) (hk k) W → yca okx W (fun _ => none) el vs →
  YieldAt Fence.wide 0 P l vs.toArray W fun e W' => (e = .returned (.bool true) ∧ zql B Bx okx N l rec t0 vt (rec .ready none) (hk (k + 1)) W') ∨ (e = .returned (.bool false) ∧ ∃ c h, ((c = .ret ∧ Q .ret ⟨t0, h⟩) ∨ ∃ i, c = .exit i ∧ Q (.exit i) ⟨t0, h⟩) ∧ zql B Bx okx N l rec t0 vt (rec .done (some c)) h W')
end
end
section
open Go.RowKit
def zsn : List (Nat × AV) → List (Nat × AV)
 | [] => []
 | (x, y) :: t => (x + 1000000, y) :: zsn t
theorem look_aside : ∀ (t : List (Nat × AV)) (x : Nat), look (zsn t) (x + 1000000) = look t x
 | [], x => rfl
 | (a, y) :: t, x => by
  simp only [zsn, look]
  have e : Nat.beq (x + 1000000) (a + 1000000) = Nat.beq x a := by
   cases h : Nat.beq x a with
   | true => rw [Nat.eq_of_beq_eq_true h]; simp
   | false =>
    refine ydm fun e => ?_
    obtain rfl : x = a := by omega
    simp at h
  rw [e]
  cases Nat.beq x a with
  | true => rfl
  | false => exact look_aside t x
theorem yqp : ∀ {l : List Nat}, yef l = true → l.Nodup
 | [], _ => List.nodup_nil
 | k :: l, h => by
  simp only [yef] at h
  cases hm : ylg k l with
  | true => simp [hm] at h
  | false =>
   simp only [hm] at h
   exact List.nodup_cons.2 ⟨fun hin => (by rw [yej.2 hin] at hm; cases hm), yqp h⟩
def zqg : List (Nat × AV) → List (Nat × AV)
 | [] => []
 | (x, y) :: t => match Nat.ble 1000000 x with
  | true => zqg t
  | false => (x, y) :: zqg t
theorem yxi : ∀ {t : List (Nat × AV)} {x : Nat}, look (zqg t) x = match Nat.ble 1000000 x with | true => none | false => look t x
 | [], x => by cases h : Nat.ble 1000000 x <;> rfl
 | (a, z) :: t, x => by
  have ih := yxi (t := t) (x := x)
  simp only [zqg]
  cases ha : Nat.ble 1000000 a with
  | true =>
   simp only
   rw [ih]
   cases hx : Nat.ble 1000000 x with
   | true => rfl
   | false =>
    simp only [look]
    rw [ydm (fun e => by subst e; rw [ha] at hx; cases hx)]
  | false =>
   simp only [look]
   cases hb : Nat.beq x a with
   | true => rw [Nat.eq_of_beq_eq_true hb, ha]
   | false => simp only; rw [ih]
section
variable {P : Program} {n : Nat} {ops : Array Oper} {Q : Exit → Act → World → Prop} {a : Act} {w : World}
end
end
end Go.Proofs.YtgpbgfpjlhoicaaGreatDoor
