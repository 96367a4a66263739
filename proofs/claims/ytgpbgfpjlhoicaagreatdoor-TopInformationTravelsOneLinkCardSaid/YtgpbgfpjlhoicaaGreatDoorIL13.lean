/- Part 13 of the texts under TopInformationTravelsOneLink: joined, with what it needs alone. -/
import Derived.RecoverIn
import Derived.WideLaws
import Derived.Lib.Split
import Derived.Lib.SplitLaws
import GoSem.Core.Utf8
import Derived.Lib.ItoaNum
import Derived.Lib.Strings
import Derived.KernelRfl
import Derived.Test.YtgpbgfpjlhoicaaGreatDoorRows
import Derived.Lib.LaidTab
import Derived.Deep.DeepHandedRow
import Derived.LaidSub
import Derived.Test.YtgpbgfpjlhoicaaGreatDoorIL1
import Derived.Test.YtgpbgfpjlhoicaaGreatDoorIL2
import Derived.Test.YtgpbgfpjlhoicaaGreatDoorIL3
import Derived.Test.YtgpbgfpjlhoicaaGreatDoorIL6
import Derived.Test.YtgpbgfpjlhoicaaGreatDoorIL7
import Derived.Test.YtgpbgfpjlhoicaaGreatDoorIL9
import Derived.Test.YtgpbgfpjlhoicaaGreatDoorIL10
import Derived.Test.YtgpbgfpjlhoicaaGreatDoorIL11
import Derived.Test.YtgpbgfpjlhoicaaGreatDoorIL12
set_option linter.unusedVariables false
set_option maxHeartbeats 4000000
namespace Go.Proofs.YtgpbgfpjlhoicaaGreatDoor
section
open Go.RowKit
abbrev Runs := Array Value → World → (Ending → World → Prop) → Prop
def ztj (K : Runs) (args : List AV) (hs : Nat → Option LObj) (r : AV) (hs' : Nat → Option LObj) : Prop :=
 (∀ id o, hs' id = some o → isC o = true → ∃ o', hs id = some o' ∧ isC o' = true) ∧ ∀ (ok0 : Nat → Prop) (lv : Live) (w : World) (us : List Value), Inv (yfr w lv) ok0 hs lv w → yca (ybn (yfr w lv) ok0 lv w) w lv args us →
  K us.toArray w fun e w' => ∃ u lv', e = .returned u ∧ Rel (ybn (yfr w lv) ok0 lv' w') w' lv' r u ∧ Inv (yfr w lv) ok0 hs' lv' w' ∧ ∀ id o, hs' id = some o → isC o = true → ∃ b n n', lv id = some (some b, n) ∧ lv' id = some (some b, n')
def KD (P : Program) (f : FuncId) (u u' : FrameMode) : Runs := fun us w R => CallsDIn Fence.wide 0 P f us u w fun e u2 w' => u2 = u' ∧ R e w'
theorem KD.mono {P : Program} {f : FuncId} {u u' : FrameMode} {us : Array Value} {w : World} {R R' : Ending → World → Prop} (h : ∀ e w', R e w' → R' e w') (hk : KD P f u u' us w R) : KD P f u u' us w R' :=
 CallsDIn.mono hk fun e u2 w' ⟨h1, h2⟩ => ⟨h1, h _ _ h2⟩
section
variable {P : Program} {N : Nat}
theorem lendK {K : Runs} (hK : ∀ (us : Array Value) (w : World) (R R' : Ending → World → Prop), (∀ e w', R e w' → R' e w') → K us w R → K us w R') {args0 : List AV} {hm hm' : Nat → Option LObj} {r : AV} {σ : Nat → Nat} {ids : List Nat} {s s2 : SS} {B : Bse} {ok0 : Nat → Prop} {lv : Live} {a : Act} {w : World} {vs : List Value}
  (hs : Sim B ok0 N s lv a w) (hvs : yca (ybn B ok0 lv w) w lv (args0.map (yff σ)) vs) (hc : ztj K args0 hm r hm')
  (hinj : ∀ i ∈ ids, ∀ j ∈ ids, σ i = σ j → i = j) (hdom : ∀ id, (hm id).isSome → id ∈ ids) (hdom' : ∀ id, (hm' id).isSome → id ∈ ids) (hmem : ∀ id o, hm id = some o → s.h (σ id) = some (yyy σ o)) (hro : ∀ id o, hm' id = some o → yqq ids o = true)
  (ht : ∀ x y, s2.t x = some y → (y = .any ∧ ∃ z, s.t x = some z) ∨ (s.t x = some y ∧ zuu σ ids hm' y))
  (hh1 : ∀ i ∈ ids, s2.h (σ i) = (hm' i).map (yyy σ)) (hh2 : ∀ j ob', (∀ i ∈ ids, σ i ≠ j) → s2.h j = some ob' → (∀ i ∈ ids, yfv (σ i) ob' = false) ∧ ∃ ob, s.h j = some ob ∧ ylr ob ob') : K vs.toArray w fun e w' => ∃ u lv2, e = .returned u ∧ Sim B ok0 N s2 lv2 a w' := by
 let lv1 : Live := fun id => if id ∈ ids ∧ (hm id).isSome then lv (σ id) else none
 have hl1 : ∀ id b n, lv1 id = some (b, n) → id ∈ ids ∧ (hm id).isSome ∧ lv (σ id) = some (b, n) := by
  intro id b n hb
  simp only [lv1] at hb
  split at hb
  ·rename_i h; exact ⟨h.1, h.2, hb⟩
  ·cases hb
 have hl2 : ∀ id b n, lv1 id = some (b, n) → lv (σ id) = some (b, n) := fun id b n h => (hl1 id b n h).2.2
 have hmine : ∀ b, ypq lv1 b → B.mine b ∧ b < w.heap.size ∧ ∃ i ∈ ids, ∃ n, lv (σ i) = some (some b, n) := by
  rintro b ⟨id, n, hb⟩
  obtain ⟨h1, h2, h3⟩ := hl1 id _ n hb
  obtain ⟨_, _, h4, h5, _⟩ := hs.inv.lvat h3
  exact ⟨h4, h5, id, h1, n, h3⟩
 have hok1 : ∀ g, ybn B ok0 lv w g → ybn (yfr w lv1) (ybn B ok0 lv w) lv1 w g := fun g hg => ⟨.inl hg, hg.2.1, fun id b n hb => hg.2.2 (σ id) b n (hl2 id _ n hb)⟩
 have hinv : Inv (yfr w lv1) (ybn B ok0 lv w) hm lv1 w := by
  refine ⟨⟨rfl, rfl, rfl, Nat.le_refl _, fun _ _ _ => rfl, hs.inv.base.glob, hs.inv.base.glob.size, fun k hk => hs.inv.base.mineG (hmine k hk).1, fun l h => by cases h⟩, fun g hg => hg.2.1, fun id hid => by simp [lv1, hid], fun i j b n m h1 h2 => ?_, fun id x hx => ?_⟩
  ·obtain ⟨q1, _, q2⟩ := hl1 _ _ _ h1
   obtain ⟨r1, _, r2⟩ := hl1 _ _ _ h2
   exact hinj i q1 j r1 (hs.inv.inj _ _ b n m q2 r2)
  ·obtain ⟨b, n, h1, h2⟩ := hs.inv.obj (σ id) _ (hmem id x hx)
   have hlv : lv1 id = some (b, n) := by simp [lv1, hdom id (by simp [hx]), hx, h1]
   refine ⟨b, n, hlv, ?_⟩
   cases b with
   | none => exact zlb h2
   | some b => exact ⟨.inl ⟨id, n, hlv⟩, h2.2.1, ygl.unren hl2 hok1 h2.2.2⟩
 have hall : yca (ybn (yfr w lv1) (ybn B ok0 lv w) lv1 w) w lv1 args0 vs := by
  refine ⟨by rw [hvs.1, List.length_map], fun i x u hx hu => ?_⟩
  have hrel : Rel (ybn B ok0 lv w) w lv (yff σ x) u := hvs.2 i _ u (by simp [hx]) hu
  exact (Rel.unren hl2 hrel).keep fun g hg => ⟨hok1 g hg, rfl⟩
 refine hK _ _ _ _ (fun e w' ⟨u, lv3, he, hu, hi3, hpin⟩ => ?_) (hc.2 (ybn B ok0 lv w) lv1 w vs hinv hall)
 have hb3 := hi3.base
 -- the blocks that are not lent stay
 have hstay : ∀ k, k < w.heap.size → (∀ i ∈ ids, ∀ n, lv (σ i) ≠ some (some k, n)) → w'.heap[k]? = w.heap[k]? := by
  intro k hk hn
  exact hb3.block k hk fun hlent => by
   obtain ⟨_, _, i, hi, n, hn'⟩ := hmine k hlent
   exact hn i hi n hn'
 have hsz : w.heap.size ≤ w'.heap.size := hb3.size
 have hmine3 : ∀ id b n, lv3 id = some (some b, n) → B.mine b ∧ b < w'.heap.size ∧ (w.heap.size ≤ b ∨ ∃ i ∈ ids, ∃ n, lv (σ i) = some (some b, n)) := by
  intro id b n hb
  obtain ⟨_, _, q1, q2, _⟩ := hi3.lvat hb
  rcases q1 with q1 | q1
  ·have := hmine b q1
   exact ⟨this.1, q2, .inr this.2.2⟩
  ·exact ⟨.inr (Nat.le_trans hs.inv.base.size q1), q2, .inl q1⟩
 have hid3 : ∀ id b n, lv3 id = some (b, n) → id ∈ ids := fun id b n hb => by
  cases hq : hm' id with
  | none => rw [hi3.dom id hq] at hb; cases hb
  | some o => exact hdom' id (by simp [hq])
 let find : Nat → Option Nat := fun j => ids.find? fun i => σ i == j
 have hf1 : ∀ j i, find j = some i → i ∈ ids ∧ σ i = j := fun j i h => ⟨List.mem_of_find?_eq_some h, by simpa using List.find?_some h⟩
 have hf2 : ∀ i ∈ ids, find (σ i) = some i := fun i hi => by
  cases hq : find (σ i) with
  | none =>
   have := List.find?_eq_none.1 hq i hi
   simp at this
  | some k => obtain ⟨h1, h2⟩ := hf1 _ _ hq; rw [hinj k h1 i hi h2]
 have hf3 : ∀ j, find j = none → ∀ i ∈ ids, σ i ≠ j := fun j h i hi e => by
  have := List.find?_eq_none.1 h i hi
  simp [e] at this
 let lv2 : Live := fun j => match find j with
  | some i => lv3 i
  | none => if (s2.h j).isSome then lv j else none
 have hlv2a : ∀ i ∈ ids, lv2 (σ i) = lv3 i := fun i hi => by simp only [lv2, hf2 i hi]
 have hlv2b : ∀ j, (∀ i ∈ ids, σ i ≠ j) → ∀ b n, lv2 j = some (b, n) → lv j = some (b, n) ∧ (s2.h j).isSome := by
  intro j hj b n hb
  have hn : find j = none := by
   cases hq : find j with
   | none => rfl
   | some i => obtain ⟨h1, h2⟩ := hf1 _ _ hq; exact absurd h2 (hj i h1)
  simp only [lv2, hn] at hb
  split at hb
  ·rename_i h; exact ⟨hb, h⟩
  ·cases hb
 have hcase : ∀ j, (∃ i ∈ ids, σ i = j) ∨ ∀ i ∈ ids, σ i ≠ j := fun j => by
  cases hq : find j with
  | none => exact .inr (hf3 j hq)
  | some i => obtain ⟨h1, h2⟩ := hf1 _ _ hq; exact .inl ⟨i, h1, h2⟩
 have hok2 : ∀ g, ybn B ok0 lv w g → ybn B ok0 lv2 w' g ∧ w'.heap[g]? = w.heap[g]? := by
  intro g hg
  refine ⟨⟨hg.1, Nat.lt_of_lt_of_le hg.2.1 hsz, fun j b n hb => ?_⟩, hstay g hg.2.1 fun i _ n hn => hg.2.2 _ _ n hn rfl⟩
  rcases hcase j with ⟨i, hi, rfl⟩ | hj
  ·rw [hlv2a i hi] at hb
   rcases (hmine3 i b n hb).2.2 with h | ⟨i', _, n', h⟩
   ·have := hg.2.1; omega
   ·exact hg.2.2 _ _ n' h
  ·exact hg.2.2 j b n (hlv2b j hj _ n hb).1
 have hok3 : ∀ g, ybn (yfr w lv1) (ybn B ok0 lv w) lv3 w' g → ybn B ok0 lv2 w' g := by
  intro g hg
  refine ⟨?_, hg.2.1, fun j b n hb => ?_⟩
  ·rcases hg.1 with h | h | h
   ·exact h.1
   ·exact .inr (hmine g h).1
   ·exact .inr (.inr (Nat.le_trans hs.inv.base.size h))
  ·rcases hcase j with ⟨i, hi, rfl⟩ | hj
   ·rw [hlv2a i hi] at hb
    exact hg.2.2 i b n hb
   ·obtain ⟨hb', _⟩ := hlv2b j hj _ n hb
    have hlt := hs.inv.lvlt hb'
    rintro rfl
    rcases hg.1 with h | h | h
    ·exact h.2.2 j b n hb' rfl
    ·obtain ⟨_, _, i, hi, n', hn'⟩ := hmine b h
     exact hj i hi (hs.inv.inj _ _ b n' n hn' hb')
    ·simp only [yfr] at h; omega
 have hren : ∀ id b n, id ∈ ids → lv2 (σ id) = some (b, n) → lv3 id = some (b, n) := fun id b n hi hb => by rwa [hlv2a id hi] at hb
 have hframe : ∀ (y : AV) (z : Value), (∀ i ∈ ids, ment (σ i) y = false) → Rel (ybn B ok0 lv w) w lv y z → Rel (ybn B ok0 lv2 w') w' lv2 y z := by
  intro y z hy hz
  refine (hz.relive fun j b n hb hm => ?_).keep hok2
  rcases hcase j with ⟨i, hi, rfl⟩ | hj
  ·rw [hy i hi] at hm; cases hm
  ·exact (hlv2b j hj b n hb).1
 refine ⟨u, lv2, he, ⟨⟨?_, hs.inv.ok0lt, fun j hj => ?_, fun i j b n m h1 h2 => ?_, fun j x hx => ?_⟩, hs.size, fun x y hy => ?_, hs.defers.same (fun g hg => (hstay g (Array.getElem?_eq_some_iff.1 hg).1 fun i hi n hn => (hs.inv.lvat hn).choose_spec.2.2.2.notDef hg).trans hg), hs.big, fun j b ws hN hj hcj hb => ?_⟩⟩
 ·-- base
  refine ⟨hb3.os.trans hs.inv.base.os, hb3.tape.trans hs.inv.base.tape, hb3.output.trans hs.inv.base.output, Nat.le_trans hs.inv.base.size hsz, fun k hk hnl => ?_, hb3.glob, hs.inv.base.gsize, hs.inv.base.lentG, hs.inv.base.rdok⟩
  refine (hstay k (Nat.lt_of_lt_of_le hk hs.inv.base.size) fun i hi n hn => ?_).trans (hs.inv.base.block k hk hnl)
  obtain ⟨_, _, q1, _, _⟩ := hs.inv.lvat hn
  rcases q1 with q1 | q1
  ·exact hnl q1
  ·omega
 ·-- dom
  rcases hcase j with ⟨i, hi, rfl⟩ | hj'
  ·rw [hlv2a i hi]
   refine hi3.dom i ?_
   rw [hh1 i hi] at hj
   cases hq : hm' i with
   | none => rfl
   | some o => simp [hq] at hj
  ·cases hq : lv2 j with
   | none => rfl
   | some q => obtain ⟨q1, q2⟩ := q; have := (hlv2b j hj' q1 q2 hq).2; simp [hj] at this
 ·-- inj
  rcases hcase i with ⟨i', hi, rfl⟩ | hi <;> rcases hcase j with ⟨j', hj, rfl⟩ | hj
  ·rw [hlv2a i' hi] at h1
   rw [hlv2a j' hj] at h2
   rw [hi3.inj i' j' b n m h1 h2]
  ·rw [hlv2a i' hi] at h1
   have h2' := (hlv2b j hj _ m h2).1
   have := hs.inv.lvlt h2'
   rcases (hmine3 i' b n h1).2.2 with h | ⟨k, hk, n', h⟩
   ·omega
   ·exact absurd (hs.inv.inj _ _ b n' m h h2') (hj k hk)
  ·rw [hlv2a j' hj] at h2
   have h1' := (hlv2b i hi _ n h1).1
   have := hs.inv.lvlt h1'
   rcases (hmine3 j' b m h2).2.2 with h | ⟨k, hk, n', h⟩
   ·omega
   ·exact absurd (hs.inv.inj _ _ b n' n h h1') (hi k hk)
  ·exact hs.inv.inj i j b n m (hlv2b i hi _ n h1).1 (hlv2b j hj _ m h2).1
 ·-- objects
  rcases hcase j with ⟨i, hi, rfl⟩ | hj
  ·rw [hh1 i hi] at hx
   cases hq : hm' i with
   | none => simp [hq] at hx
   | some ob =>
    simp only [hq, Option.map_some, Option.some.injEq] at hx
    subst hx
    obtain ⟨b, n, q1, q2⟩ := hi3.obj i ob hq
    refine ⟨b, n, by rw [hlv2a i hi]; exact q1, ?_⟩
    cases b with
    | none =>
     simp only [yha] at q2 ⊢
     rcases q2 with rfl | ⟨e, rfl⟩
     ·exact .inl rfl
     ·exact .inr ⟨e, rfl⟩
    | some b =>
     exact ⟨(hmine3 i b n q1).1, q2.2.1, ygl.ren hren (hro i ob hq) hok3 q2.2.2⟩
  ·obtain ⟨hm1, ob, hob, hfo⟩ := hh2 j x hj hx
   obtain ⟨b, n, q1, q2⟩ := hs.inv.obj j ob hob
   have hlv2 : lv2 j = some (b, n) := by
    have hn : find j = none := by
     cases hq : find j with
     | none => rfl
     | some i => obtain ⟨h1, h2⟩ := hf1 _ _ hq; exact absurd h2 (hj i h1)
    simp [lv2, hn, hx, q1]
   refine ⟨b, n, hlv2, ?_⟩
   cases b with
   | none =>
    simp only [yha] at q2 ⊢
    rcases hfo with rfl | ⟨_, _, rfl, _⟩ | ⟨_, _, _, rfl, _⟩
    ·exact q2
    ·simp at q2
    ·simp at q2
   | some b =>
    obtain ⟨q3, q4, q5⟩ := q2
    have hbk : w'.heap[b]? = w.heap[b]? := hstay b q4 fun i hi n' hn' => hj i hi (hs.inv.inj _ _ b n' n hn' q1)
    refine ⟨q3, Nat.lt_of_lt_of_le q4 hsz, ?_⟩
    rcases hfo with rfl | ⟨zs, ys, rfl, rfl, hyl, hyz⟩ | ⟨te, zs, ys, rfl, rfl, hyl, hyz⟩
    ·refine (q5.relive (lv' := lv2) fun k b' n' hb' hmk => ?_).keep hok2 hbk
     rcases hcase k with ⟨i, hi, rfl⟩ | hk
     ·rw [hm1 i hi] at hmk; cases hmk
     ·exact (hlv2b k hk b' n' hb').1
    ·obtain ⟨c, e, g1, g2, g3, g4, g5⟩ := q5
     refine ⟨c, e, by rw [hbk]; exact g1, g2, by omega, fun y hy => ?_, fun k y z hy hz => ?_⟩
     ·obtain ⟨k, hk⟩ := List.getElem?_of_mem hy
      obtain ⟨x, hx⟩ : ∃ x, zs[k]? = some x := ⟨_, List.getElem?_eq_getElem (by have := (List.getElem?_eq_some_iff.1 hk).1; omega)⟩
      rcases hyz k x y hx hk with rfl | rfl
      ·exact g4 _ (List.mem_of_getElem? hx)
      ·rfl
     ·obtain ⟨x, hx⟩ : ∃ x, zs[k]? = some x := ⟨_, List.getElem?_eq_getElem (by have := (List.getElem?_eq_some_iff.1 hy).1; omega)⟩
      rcases hyz k x y hx hy with rfl | rfl
      ·refine hframe _ z (fun i hi => ?_) (g5 k _ z hx hz)
       exact yfd hy (hm1 i hi)
      ·exact .one _ ((g5 k x z hx hz).oneCell (g4 x (List.mem_of_getElem? hx)))
    ·obtain ⟨⟨c, e, g1, g2, g3, g4, g5⟩, hsh⟩ := q5
     refine ⟨⟨c, e, by rw [hbk]; exact g1, g2, by omega, fun y hy => ?_, fun k y z hy hz => ?_⟩, by rw [hyl]; exact (yhq hbk).trans hsh⟩
     ·obtain ⟨k, hk⟩ := List.getElem?_of_mem hy
      obtain ⟨x, hx⟩ : ∃ x, zs[k]? = some x := ⟨_, List.getElem?_eq_getElem (by have := (List.getElem?_eq_some_iff.1 hk).1; omega)⟩
      rcases hyz k x y hx hk with rfl | rfl
      ·exact g4 _ (List.mem_of_getElem? hx)
      ·rfl
     ·obtain ⟨x, hx⟩ : ∃ x, zs[k]? = some x := ⟨_, List.getElem?_eq_getElem (by have := (List.getElem?_eq_some_iff.1 hy).1; omega)⟩
      rcases hyz k x y hx hy with rfl | rfl
      ·refine hframe _ z (fun i hi => ?_) (g5 k _ z hx hz)
       exact yfd hy (hm1 i hi)
      ·exact .one _ ((g5 k x z hx hz).oneCell (g4 x (List.mem_of_getElem? hx)))
 ·-- frame
  rcases ht x y hy with ⟨rfl, z, hz⟩ | ⟨hz, hk⟩
  ·exact ⟨(hs.frame x z hz).1, .any _⟩
  ·refine ⟨(hs.frame x y hz).1, ?_⟩
   have hold := (hs.frame x y hz).2
   rcases hk with hk | ⟨i, hi, off, o', hye, hci, hcc⟩
   ·exact hframe y _ hk hold
   ·have hlp : ∀ z : Value, Rel (ybn B ok0 lv w) w lv (.lp (σ i) off) z → Rel (ybn B ok0 lv2 w') w' lv2 (.lp (σ i) off) z := fun z hz => by
     cases hz with
     | lp _ h1 h2 =>
      refine .lp _ h1 fun b n hb => ?_
      rw [hlv2a i hi] at hb
      obtain ⟨b', n', n'', p1, p2⟩ := hpin i o' hci hcc
      rw [hb] at p2
      cases p2
      exact h2 b n' (hl2 i _ n' p1)
    rcases hye with rfl | ⟨f', rfl⟩
    ·exact hlp _ hold
    ·generalize yfg B a x = z at hold
     cases hold with
     | fm vs hvl hvr =>
      refine .fm vs hvl fun k c u h1 h2 => ?_
      have h3 := hvr k c u h1 h2
      match k, h1 with
      | 0, h1 =>
       simp only [List.getElem?_cons_zero, Option.some.injEq] at h1
       subst h1
       exact hlp _ h3
      | k + 1, h1 => simp at h1
 ·-- pins
  rcases hcase j with ⟨i, hi, rfl⟩ | hj'
  ·rw [hh1 i hi] at hj
   cases hq : hm' i with
   | none => simp [hq] at hj
   | some ob =>
    simp only [hq, Option.map_some, Option.some.injEq] at hj
    subst hj
    rw [yvs] at hcj
    obtain ⟨b', n', n'', p1, p2⟩ := hpin i ob hq hcj
    obtain ⟨zs, hz, hzc⟩ := hc.1 i ob hq hcj
    obtain ⟨n, hn⟩ := hs.pin (σ i) b _ hN (hmem i _ hz) (by rw [yvs]; exact hzc) hb
    rw [hl2 i _ n' p1] at hn
    cases hn
    exact ⟨n'', by rw [hlv2a i hi]; exact p2⟩
  ·obtain ⟨_, ob, hys, hfo⟩ := hh2 j _ hj' hj
   have hcc : isC ob = true := by
    rcases hfo with rfl | ⟨xs', ys', rfl, _, _⟩ | ⟨e, xs', ys', rfl, _, _⟩
    ·exact hcj
    ·rfl
    ·rfl
   obtain ⟨n, hn⟩ := hs.pin j b ob hN hys hcc hb
   obtain ⟨b2, n2, q1, _⟩ := hs.inv.obj j _ hys
   rw [hn] at q1
   cases q1
   have hn' : find j = none := by
    cases hq : find j with
    | none => rfl
    | some i => obtain ⟨h1, h2⟩ := hf1 _ _ hq; exact absurd h2 (hj' i h1)
   exact ⟨n, by simp [lv2, hn', hj, hn]⟩
end
def ypy (P : Program) (R : World → Prop) : List Deferred → World → Prop
 | [], w => R w
 | d :: ds, w => ∃ r w', d.target = .collected r ∧ (Instr.takeDeferred r).run P w = .ok [] w' ∧ ypy P R ds w'
theorem yjh {P : Program} {F : Fence} {n : Nat} {R : World → Prop} : ∀ (ds : List Deferred) (w : World) (fr : Frame) (cs : List Frame), fr.mode = .returning → fr.defers = ds → F.fn fr.fn → F.room (cs.length + 1 + n) → ypy P R ds w →
  ∃ w', R w' ∧ StepsIn (Machine.fenced P F) P (lone fr cs w) (lone { fr with defers := [] } cs w')
 | [], w, fr, cs, hm, hd, hF, hr, h => ⟨w, h, by rw [← hd]; exact StepsIn.refl _⟩
 | d :: ds, w, fr, cs, hm, hd, hF, hr, ⟨r, w1, h1, h2, h3⟩ => by
  have hs := step_collected (cs := cs) (by rw [hm]; simp) hd h1 h2
  have i1 : (lone fr cs w).fenced P F := fenced_out hF hr (by rw [hm]; simp) hd (fun g hg => by rw [h1] at hg; simp [Target.leads] at hg)
  obtain ⟨w2, g1, g2⟩ := yjh ds w1 { fr with defers := [] ++ ds } cs hm rfl hF hr h3
  exact ⟨w2, g1, .head i1 hs g2⟩
theorem callsDIn_of_wp_marks {P : Program} {F : Fence} {n : Nat} {f : FuncId} {fn : Func} {c : Code} {args : Array Value} {u : FrameMode} {w : World} {R : Ending → World → Prop} (hf : P.funcs[f]? = some fn) (hb : fn.body = some c) (hF : F.fn f)
  (h : c.wpIn F n P (fun e a w' => (e = .normal ∨ e = .ret) ∧ ypy P (fun w2 => ∃ v, (results fn a.tmps).run P w2 = .ok v w2 ∧ R (.returned v) w2) a.defers w') { tmps := args ++ Array.replicate (fn.ntmps - args.size) undef, defers := [] } w) (hro : F.round = none := by rfl) :
  CallsDIn F n P f args u w fun e u' w' => u' = u ∧ R e w' := by
 refine ⟨hF, fun c₀ cs hu hr => ?_⟩
 let b : Frame := { (default : Frame) with fn := f, kind := .deferred, roundOf := none }
 have henter : Frame.enter P f args .deferred =
   b.atR { tmps := args ++ Array.replicate (fn.ntmps - args.size) undef, defers := [] } [.code c] := by
  simp [Frame.enter, Frame.atR, hf, hb, b]
 have hc : ({ c₀ with mode := u } : Frame) = c₀ := by subst hu; rfl
 obtain ⟨e, a', w', ⟨he, hq⟩, harr⟩ := h b [] (c₀ :: cs) hro.symm hF hr
 rw [← henter] at harr
 rcases he with rfl | rfl
 ·obtain ⟨w2, ⟨v, g1, g2⟩, g3⟩ := yjh (F := F) (n := n) a'.defers w' { b.atR a' [] with mode := .returning } (c₀ :: cs) rfl rfl hF hr hq
  exact ⟨.returned v, u, w2, _, ⟨rfl, g2⟩, (by rw [hc]; exact StepsIn.trans (StepsIn.trans harr (.one (fenced_calm (fr := b.atR a' []) hF hr rfl) (stepR_end rfl))) g3), rfl, rfl, rfl, rfl, fn, hf, g1⟩
 ·obtain ⟨todo, hs⟩ := harr.1 rfl
  obtain ⟨w2, ⟨v, g1, g2⟩, g3⟩ := yjh (F := F) (n := n) a'.defers w' { b.atR a' todo with mode := .returning } (c₀ :: cs) rfl rfl hF hr hq
  exact ⟨.returned v, u, w2, _, ⟨rfl, g2⟩, (by rw [hc]; exact StepsIn.trans hs g3), rfl, rfl, rfl, rfl, fn, hf, g1⟩
theorem yrp {P : Program} {Rw : World → Prop} {B : Bse} {ok0 : Nat → Prop} {N : Nat} {s : SS} {lv : Live} {tm : Array Value} (hB : B.dl = []) (fin : ∀ (a : Act) (w : World), a.tmps = tm → Sim B ok0 N s lv a w → Rw w) : ∀ (ms : List Deferred) (a : Act) (w : World), a.tmps = tm → a.defers = ms → Sim B ok0 N s lv a w → ypy P Rw ms w
 | [], a, w, ht, hm, hs => fin a w ht hs
 | d :: ms, a, w, ht, hm, hs => by
  obtain ⟨ms', h1, hn, h2⟩ := hs.defers
  rw [hB, List.append_nil, hm] at h1
  subst h1
  obtain ⟨D, hd, hD, hge⟩ := h2 d (by simp)
  refine ⟨D, _, by rw [hd], run_takeDeferred hD, ?_⟩
  simp only [List.nodup_cons] at hn
  have hsh := Shut.put hD
  have hs' := hs.shut hsh (fun k hk => World.putObj_heap_other (by omega)) (l := ms) ⟨ms, by rw [hB, List.append_nil], hn.2, fun d' hd' => by
   obtain ⟨D', e1, e2, e3⟩ := h2 d' (by simp [hd'])
   refine ⟨D', e1, (World.putObj_heap_other fun e => ?_).trans e2, e3⟩
   subst e
   exact hn.1 (by rw [hd, ← e1]; exact hd')⟩
  exact yrp hB fin ms { a with defers := ms } _ ht rfl hs'
def bM (w : World) (lv : Live) : Bse := ⟨w, ypq lv, fun id => (lv id).bind (·.1), none, [], fun _ => undef⟩
theorem znu {N n : Nat} {args : List AV} {hs : Nat → Option LObj} {ok0 : Nat → Prop} {lv : Live} {w : World} {us : List Value} (hN : n = N) (hlen : (Nat.ble args.length N && Nat.ble N 1000000) = true) (hi : Inv (yfr w lv) ok0 hs lv w) (hus : yca (ybn (yfr w lv) ok0 lv w) w lv args us) :
  Sim (bM w lv) ok0 N ⟨look (ygb 0 args), hs⟩ lv { tmps := us.toArray ++ Array.replicate (n - us.toArray.size) undef, defers := [] } w := by
 simp only [Bool.and_eq_true, Nat.ble_eq] at hlen
 obtain ⟨hlen', hbig⟩ := hlen
 refine ⟨hi.pinned _ _ _ _ (fun l h => by cases h), ?_, fun x y hy => ?_, ⟨[], rfl, List.nodup_nil, fun d hd => by cases hd⟩, hbig, fun id b o hN hx hc hb => ?_⟩
 ·simp [hN, hus.1]; omega
 ·simp only [yok] at hy
  have hlt := (List.getElem?_eq_some_iff.1 hy).1
  refine ⟨.inl (by omega), ?_⟩
  rw [yfg, if_pos (by omega)]
  obtain ⟨u, hu⟩ : ∃ u, us[x]? = some u := ⟨_, List.getElem?_eq_getElem (by rw [hus.1]; exact hlt)⟩
  simp only [yrh us _ x u hu]
  exact hus.2 x y u hy hu
 ·simp only [bM] at hb
  cases hl : lv id with
  | none => simp [hl] at hb
  | some q => obtain ⟨q1, q2⟩ := q; simp [hl] at hb; subst hb; exact ⟨q2, rfl⟩
theorem zss {P : Program} {T : Nat → Option Ty} (hT : TOK P T) {fn : Func} {N : Nat} {rs : List ResultVar} {r x : AV} {hs hs' : Nat → Option LObj} {ok0 : Nat → Prop} {lv lv' : Live} {w w' : World} {s' : SS} {a' : Act} (hrs : fn.results = rs.toArray) (hcl : ∀ id o, hs' id = some o → isC o = true → N ≤ id ∧ ∃ o', hs id = some o' ∧ isC o' = true)
  (hi : Inv (yfr w lv) ok0 hs lv w) (hs2 : Sim (bM w lv) ok0 N s' lv' a' w') (hx : ytl T s' rs = some x) (hwk : Wk x r) (hsub : ∀ id o, hs' id = some o → s'.h id = some o) :
  ∃ v, (results fn a'.tmps).run P w' = .ok v w' ∧ ∃ u lv2, Ending.returned v = .returned u ∧ Rel (ybn (yfr w lv) ok0 lv2 w') w' lv2 r u ∧ Inv (yfr w lv) ok0 hs' lv2 w' ∧ ∀ id o, hs' id = some o → isC o = true → ∃ b n n', lv id = some (some b, n) ∧ lv2 id = some (some b, n') := by
 obtain ⟨u, hu, hrun⟩ := yyb (P := P) hT hs2 hrs hx
 obtain ⟨lv2, i1, i2, i3⟩ := hs2.inv.weak hsub
 refine ⟨u, hrun, u, lv2, rfl, hwk.rel _ _ _ _ ((hu.relive fun id b n hb _ => i2 id b n hb).keep fun g hg => ⟨i3 g hg, rfl⟩), i1.pinned _ _ _ _ (fun l h => by cases h), fun id o hx hc => ?_⟩
 obtain ⟨h1, o', hy, hc'⟩ := hcl id o hx hc
 obtain ⟨b, n, hb, ho⟩ := hi.obj id _ hy
 cases b with
 | none => simp only [yha] at ho; rcases ho with rfl | ⟨e, rfl⟩ <;> cases hc'
 | some b =>
  obtain ⟨n', hn'⟩ := hs2.pin id b o h1 (hsub id _ hx) hc (by simp [bM, hb])
  obtain ⟨b2, n2, hb2, _⟩ := i1.obj id _ hx
  have := i2 id b2 n2 hb2
  rw [hn'] at this
  cases this
  exact ⟨b, n, _, hb, hb2⟩
theorem conKD_of {P : Program} {T : Nat → Option Ty} (hT : TOK P T) {f : FuncId} {fn : Func} {c : Code} {N : Nat} {rs : List ResultVar} {args : List AV} {hs hs' : Nat → Option LObj} {r : AV} (u : FrameMode) (hf : P.funcs[f]? = some fn) (hb : fn.body = some c) (hN : fn.ntmps = N) (hrs : fn.results = rs.toArray) (hlen : (Nat.ble args.length N && Nat.ble N 1000000) = true)
  (hcl : ∀ id o, hs' id = some o → isC o = true → N ≤ id ∧ ∃ o', hs id = some o' ∧ isC o' = true) (h : A P N c (zmy T rs r hs') ⟨look (ygb 0 args), hs⟩) : ztj (KD P f u u) args hs r hs' := by
 refine ⟨fun id o hx hc => (hcl id o hx hc).2, fun ok0 lv w us hi hus => callsDIn_of_wp_marks hf hb trivial ?_⟩
 refine wpIn_mono (h _ ok0 _ _ w (znu hN hlen hi hus)) fun e a' w' ⟨s', lv', hq, hs2⟩ => ?_
 cases e with
 | normal => obtain ⟨x, hx, h1, h2⟩ := hq; exact ⟨.inl rfl, yrp (B := bM w lv) (tm := a'.tmps) rfl (fun a2 w2 ht hs3 => by have := zss hT hrs hcl hi hs3 hx h1 h2 (fn := fn); rwa [ht] at this) _ a' w' rfl rfl hs2⟩
 | ret => obtain ⟨x, hx, h1, h2⟩ := hq; exact ⟨.inr rfl, yrp (B := bM w lv) (tm := a'.tmps) rfl (fun a2 w2 ht hs3 => by have := zss hT hrs hcl hi hs3 hx h1 h2 (fn := fn); rwa [ht] at this) _ a' w' rfl rfl hs2⟩
 | _ => exact hq.elim
def bD (B : Bse) (lv : Live) (w : World) (dl : List Deferred) (gv : Nat → Value) : Bse := ⟨w, ypq lv, B.pin, none, dl, gv⟩
theorem Sim.rebase {B : Bse} {ok0 : Nat → Prop} {N : Nat} {s : SS} {lv : Live} {a : Act} {w : World} (hs : Sim B ok0 N s lv a w) (hlow : ∀ x, 1000000 ≤ x → s.t x = none) (gv : Nat → Value) : Sim (bD B lv w a.defers gv) (ybn B ok0 lv w) N s lv a w := by
 have hm : ∀ b, ypq lv b → B.mine b ∧ b < w.heap.size := by
  rintro b ⟨id, n, hb⟩
  obtain ⟨_, _, h4, h5, _⟩ := hs.inv.lvat hb
  exact ⟨h4, h5⟩
 have hok : ∀ g, ybn B ok0 lv w g → ybn (bD B lv w a.defers gv) (ybn B ok0 lv w) lv w g := fun g hg => ⟨.inl hg, hg.2.1, hg.2.2⟩
 refine ⟨⟨⟨rfl, rfl, rfl, Nat.le_refl _, fun _ _ _ => rfl, hs.inv.base.glob, hs.inv.base.glob.size, fun k hk => hs.inv.base.mineG (hm k hk).1, fun l h => by cases h⟩, fun g hg => hg.2.1, hs.inv.dom, hs.inv.inj, fun id x hx => ?_⟩, hs.size, fun x y hy => ?_, ⟨[], rfl, List.nodup_nil, fun d hd => by cases hd⟩, hs.big, hs.pin⟩
 ·obtain ⟨b, n, h1, h2⟩ := hs.inv.obj id x hx
  refine ⟨b, n, h1, ?_⟩
  cases b with
  | none => exact h2
  | some b => exact ⟨.inl ⟨id, n, h1⟩, h2.2.1, h2.2.2.keep (fun g hg => ⟨hok g hg, rfl⟩) rfl⟩
 ·obtain ⟨h1, h2⟩ := hs.frame x y hy
  refine ⟨h1, ?_⟩
  have hlt : x < 1000000 := by
   rcases Nat.lt_or_ge x 1000000 with h | h
   ·exact h
   ·rw [hlow x h] at hy; cases hy
  have e : yfg (bD B lv w a.defers gv) a x = yfg B a x := by simp [yfg, hlt]
  rw [e]
  exact h2.keep fun g hg => ⟨hok g hg, rfl⟩
theorem Sim.unbase {B : Bse} {ok0 : Nat → Prop} {N : Nat} {s s' : SS} {lv lv' : Live} {a a' : Act} {w w' : World} {dl ds : List Deferred} {gv : Nat → Value} (hs : Sim B ok0 N s lv a w) (hrd : B.rd = none) (hs' : Sim (bD B lv w dl gv) (ybn B ok0 lv w) N s' lv' a' w') (hds : yyz B w' ds) (hlow : ∀ x, 1000000 ≤ x → s'.t x = none) : Sim B ok0 N s' lv' { a' with defers := ds } w' := by
 have hm : ∀ b, ypq lv b → B.mine b := by
  rintro b ⟨id, n, hb⟩
  obtain ⟨_, _, h4, h5, _⟩ := hs.inv.lvat hb
  exact h4
 have hmine : ∀ g, (bD B lv w dl gv).mine g → B.mine g := by
  rintro g (h | h)
  ·exact hm g h
  ·exact .inr (Nat.le_trans hs.inv.base.size h)
 have hok : ∀ g, ybn (bD B lv w dl gv) (ybn B ok0 lv w) lv' w' g → ybn B ok0 lv' w' g := fun g hg => ⟨by
  rcases hg.1 with h | h
  ·exact h.1
  ·exact .inr (hmine g h), hg.2.1, hg.2.2⟩
 have hb := hs'.inv.base
 have hw := hs.inv.base
 refine ⟨⟨⟨hb.os.trans hw.os, hb.tape.trans hw.tape, hb.output.trans hw.output, Nat.le_trans hw.size hb.size, fun k hk hnl => ?_, hb.glob, hw.gsize, hw.lentG, fun l h => by rw [hrd] at h; cases h⟩, hs.inv.ok0lt, hs'.inv.dom, hs'.inv.inj, fun id x hx => ?_⟩, hs'.size, fun x y hy => ?_, hds, hs'.big, hs'.pin⟩
 ·refine (hb.block k (Nat.lt_of_lt_of_le hk hw.size) fun h => ?_).trans (hw.block k hk hnl)
  rcases hm k h with h | h
  ·exact hnl h
  ·omega
 ·obtain ⟨b, n, h1, h2⟩ := hs'.inv.obj id x hx
  refine ⟨b, n, h1, ?_⟩
  cases b with
  | none => exact h2
  | some b => exact ⟨hmine b h2.1, h2.2.1, h2.2.2.keep (fun g hg => ⟨hok g hg, rfl⟩) rfl⟩
 ·obtain ⟨h1, h2⟩ := hs'.frame x y hy
  refine ⟨h1, ?_⟩
  have hlt : x < 1000000 := by
   rcases Nat.lt_or_ge x 1000000 with h | h
   ·exact h
   ·rw [hlow x h] at hy; cases hy
  have e : yfg (bD B lv w dl gv) a' x = yfg B { a' with defers := ds } x := by simp [yfg, hlt]
  rw [e] at h2
  exact h2.keep fun g hg => ⟨hok g hg, rfl⟩
theorem yrk {P : Program} {fn : Func} {R : Ending → World → Prop} {B : Bse} {ok0 : Nat → Prop} {N n : Nat} {s : SS} {lv : Live} {u : FrameMode} (hu : u ≠ .run) {tm : Array Value}
  (fin : ∀ (a : Act) (w : World), a.tmps = tm → Sim B ok0 N s lv a w → LeavesInM Fence.wide n P fn tm R B.dl u w) : ∀ (ms : List Deferred) (a : Act) (w : World), a.tmps = tm → a.defers = ms ++ B.dl → ms.Nodup →
   (∀ d ∈ ms, ∃ D, d = { target := .collected D, args := #[] } ∧ w.heap[D]? = some (.deferred (some [])) ∧ B.w.heap.size ≤ D) → Sim B ok0 N s lv a w → LeavesInM Fence.wide n P fn tm R (ms ++ B.dl) u w
 | [], a, w, ht, hd, hn, h2, hs => fin a w ht hs
 | d :: ms, a, w, ht, hd, hn, h2, hs => by
  obtain ⟨D, hdd, hD, hge⟩ := h2 d (by simp)
  refine ⟨hu, .inl ⟨D, _, by rw [hdd], run_takeDeferred hD, ?_⟩⟩
  simp only [List.nodup_cons] at hn
  have hsh := Shut.put hD
  have hrest : ∀ d' ∈ ms, ∃ D', d' = { target := .collected D', args := #[] } ∧ (w.putObj D (.deferred none)).heap[D']? = some (.deferred (some [])) ∧ B.w.heap.size ≤ D' := fun d' hd' => by
   obtain ⟨D', e1, e2, e3⟩ := h2 d' (by simp [hd'])
   refine ⟨D', e1, (World.putObj_heap_other fun e => ?_).trans e2, e3⟩
   subst e
   exact hn.1 (by rw [hdd, ← e1]; exact hd')
  have hs' := hs.shut hsh (fun k hk => World.putObj_heap_other (by omega)) (l := ms ++ B.dl) ⟨ms, rfl, hn.2, hrest⟩
  exact yrk hu fin ms { a with defers := ms ++ B.dl } _ ht rfl hn.2 hrest hs'
def ztx (P : Program) (N : Nat) (B : Bse) (ok0 : Nat → Prop) (Q : Option (FuncId × Nat) → Exit → SS → Prop) (e : Exit) (a' : Act) (w' : World) : Prop :=
 (∃ s' lv', Q none e s' ∧ Sim B ok0 N s' lv' a' w') ∨
 ∃ (g : FuncId) (vs : List Value) (d : Deferred) (s0 : SS) (lv0 : Live) (a0 : Act) (w0 : World) (s' : SS) (lv' : Live), Sim B ok0 N s0 lv0 a0 w0 ∧ (∃ fv cap, d.target = .fn fv cap ∧ ∀ w, (invoke (.fn fv cap) d.args).run P w = .ok (.enter g vs.toArray) w) ∧
  Q (some (g, vs.length)) e s' ∧ Sim (bD B lv0 w0 (d :: a0.defers) (fun x => vs.getD (x - 1000000) undef)) (ybn B ok0 lv0 w0) N s' lv' a' w'
def AF (P : Program) (N : Nat) (c : Code) (Q : Option (FuncId × Nat) → Exit → SS → Prop) (s : SS) : Prop :=
 ∀ (B : Bse) (ok0 : Nat → Prop) (lv : Live) (a : Act) (w : World), B.rd = none → B.dl = [] → Sim B ok0 N s lv a w → c.wpIn Fence.wide 0 P (ztx P N B ok0 Q) a w
section
variable {P : Program} {N : Nat} {Q : Option (FuncId × Nat) → Exit → SS → Prop} {s : SS}
theorem zmw {c : Code} (h : A P N c (Q none) s) : AF P N c Q s := fun B ok0 lv a w hrd hdl hs => by
 have := h B ok0 lv a w hs
 rw [hrd] at this
 exact wpIn_mono this fun e a' w' ⟨s', lv', h1, h2⟩ => .inl ⟨s', lv', h1, h2⟩
def ThenF (P : Program) (N : Nat) (y : Code) (Q : Option (FuncId × Nat) → Exit → SS → Prop) : Option (FuncId × Nat) → Exit → SS → Prop
 | none, .normal, s => AF P N y Q s
 | some D, .normal, s => A P N y (Q (some D)) s
 | D, e, s => Q D e s
theorem zix {x y : Code} (h : AF P N x (ThenF P N y Q) s) : AF P N (.seq x y) Q s := by
 intro B ok0 lv a w hrd hdl hs
 refine wpIn_seq (wpIn_mono (h B ok0 lv a w hrd hdl hs) fun e a' w' hp => ?_)
 rcases hp with ⟨s', lv', h1, h2⟩ | ⟨g, vs, d, s0, lv0, a0, w0, s', lv', p1, p2, p3, p4⟩
 ·cases e with
  | normal => exact h1 B ok0 lv' a' w' hrd hdl h2
  | _ => exact .inl ⟨s', lv', h1, h2⟩
 ·cases e with
  | normal => exact wpIn_mono (p3 _ _ lv' a' w' p4) fun e a2 w2 ⟨s2, lv2, q1, q2⟩ => .inr ⟨g, vs, d, s0, lv0, a0, w0, s2, lv2, p1, p2, q1, q2⟩
  | _ => exact .inr ⟨g, vs, d, s0, lv0, a0, w0, s', lv', p1, p2, p3, p4⟩
theorem yxg {ops : Array Oper} {lf : Oper → Bool} {Q : SS → Prop} {B : Bse} {ok0 : Nat → Prop} {Q' : Exit → Act → World → Prop} {n : Nat} {rest : List Nat} (hQ : ∀ s lv a w, Q s → Sim B ok0 N s lv a w → wpOpsIn (FW B.rd) n P ops Q' rest a w) {l : List Oper} {s : SS}
  (h : Lex P N ops lf Q l s) : ygd l = true → ∀ (k : Nat), (∀ (j : Nat) (o : Oper), l[j]? = some o → ops[k + j]? = some o) → ∀ (lv : Live) (a : Act) (w : World), Sim B ok0 N s lv a w → wpOpsIn (FW B.rd) n P ops Q' (List.range' k l.length ++ rest) a w := by
 induction h with
 | nil h => intro hnd k hl lv a w hs; exact hQ _ lv a w h hs
 | @calm o l s r hw hd hy k ih =>
  intro hnd k hl lv a w hs
  simp only [ygd, List.all_cons, Bool.and_eq_true, Bool.not_eq_true'] at hnd
  have h0 : ops[k]? = some o := by simpa using hl 0 o rfl
  simp only [List.length_cons, List.range'_succ, List.cons_append, wpOpsIn, h0, hs.wanted hw, if_true]
  exact ytf hnd.1 (zdk hs hd hy Q' fun a' w' hs' => ih hnd.2 (k + 1) (fun j o' ho' => by have := hl (j + 1) o' (by simpa using ho'); rwa [show k + (j + 1) = k + 1 + j by omega] at this) lv a' w' hs')
 | @skip o l s hw hd k ih =>
  intro hnd k hl lv a w hs
  simp only [ygd, List.all_cons, Bool.and_eq_true, Bool.not_eq_true'] at hnd
  have h0 : ops[k]? = some o := by simpa using hl 0 o rfl
  simp only [List.length_cons, List.range'_succ, List.cons_append, wpOpsIn, h0, hs.wanted hw, Bool.false_eq_true, if_false]
  exact ⟨fun _ _ => trivial, ih hnd.2 (k + 1) (fun j o' ho' => by have := hl (j + 1) o' (by simpa using ho'); rwa [show k + (j + 1) = k + 1 + j by omega] at this) lv _ w (hs.put hd hs.inv (Below.refl _ _) (.v _))⟩
 | @loud o l s R hl' hw hy k ih =>
  intro hnd k hl lv a w hs
  simp only [ygd, List.all_cons, Bool.and_eq_true, Bool.not_eq_true'] at hnd
  have h0 : ops[k]? = some o := by simpa using hl 0 o rfl
  simp only [List.length_cons, List.range'_succ, List.cons_append, wpOpsIn, h0, hs.wanted hw, if_true]
  refine ytf hnd.1 (Oper.wp_mono (fun a' w' ⟨s', lv', hR, hs'⟩ => ?_) (hy B ok0 lv a w hs Q'))
  exact ih s' hR hnd.2 (k + 1) (fun j o' ho' => by have := hl (j + 1) o' (by simpa using ho'); rwa [show k + (j + 1) = k + 1 + j by omega] at this) lv' a' w' hs'
 | @split l s d b hb k ih =>
  intro hnd k hl lv a w hs
  refine ih b rfl hnd k hl lv a w ?_
  rw [yjm hb]
  exact hs
theorem ync {lf : Oper → Bool} {id : Nat} {l : List Oper} (k : Nat) {o : Oper} {l1 l2 : List Oper} {g : Operand} {args : List Operand} {ats : Array TypeId} (hk : l[k]? = some o) (h1 : l.take k = l1) (h2 : l.drop (k + 1) = l2) (hn1 : ygd l1 = true) (hn2 : ygd l2 = true) (ho : o.op = .defer { callee := .value g, args := args.toArray, argTypes := ats }) (hdst : ysj N o)
  (h : Lex P N l.toArray lf (fun s1 => yaj l.toArray s1.t o = some true ∧ ∃ f caps xs, ysk P f ∧ evF s1.t g = some (.fn f caps) ∧ evL (evF s1.t) args = some xs ∧ (∀ x, 1000000 ≤ x → s1.t x = none) ∧
   Lex P N l.toArray lf (Q (some (f, xs.length + caps.length)) .normal) l2 ⟨fun x => if 1000000 ≤ x then (xs ++ caps)[x - 1000000]? else yes s1.t o.dst (.v undef) x, s1.h⟩) l1 s) : AF P N (.region id l.toArray false) Q s := by
 intro B ok0 lv a w hrd hdl hs
 have hlt := (List.getElem?_eq_some_iff.1 hk).1
 have hlen : l1.length = k := by rw [← h1, List.length_take]; omega
 have hlen2 : l2.length = l.length - k - 1 := by rw [← h2, List.length_drop]; omega
 have hFW : FW B.rd = Fence.wide := by rw [hrd]; rfl
 refine wpIn_region ?_
 have hsp : List.range l.toArray.size = List.range' 0 l1.length ++ (k :: (List.range' (k + 1) l2.length ++ [])) := by
  rw [List.append_nil, List.size_toArray, List.range_eq_range', hlen, hlen2]
  have e : l.length = k + ((l.length - k - 1) + 1) := by omega
  conv => lhs; rw [e]
  rw [← List.range'_append_1, Nat.zero_add, List.range'_succ]
 rw [hsp, ← hFW]
 refine yxg (fun s1 lv1 a1 w1 hq hs1 => ?_) h hn1 0 (fun j o' ho' => ?_) lv a w hs
 ·have h0 : l.toArray[k]? = some o := by simpa using hk
  obtain ⟨hwt, f, caps, xs, hbody, hg, hx, hlow, hlex⟩ := hq
  simp only [wpOpsIn, h0, hs1.wanted hwt, if_true]
  have hfr := hs1.eval hg
  have har := ysv (a := a1) args xs (fun x y _ hxy => hs1.eval hxy) hx
  generalize hv : a1.eval g = v at hfr
  cases hfr with
  | fn vs hl hrc =>
  let d : Deferred := { target := .fn (.func f) vs.toArray, args := (args.map a1.eval).toArray }
  have hrun : (o.semAt (FW B.rd).round a1.eval).run P w1 = .ok (.defer d) w1 := by
   rw [hFW]
   unfold Oper.semAt execOp
   simp only [ho, Fence.wide, resolve, Deferred.ofValue, hv, Sem.run_bind, Sem.run_pure, Result.andThen_ok]
   simp [d]
  refine ⟨fun _ _ => by rw [hFW]; trivial, ?_⟩
  rw [hrun, Oper.uponIn_defer]
  let gv : Nat → Value := fun x => (args.map a1.eval ++ vs).getD (x - 1000000) undef
  have hreb := hs1.rebase hlow gv
  have hsim : Sim (bD B lv1 w1 (d :: a1.defers) gv) (ybn B ok0 lv1 w1) N ⟨fun x => if 1000000 ≤ x then (xs ++ caps)[x - 1000000]? else yes s1.t o.dst (.v undef) x, s1.h⟩ lv1 ({ a1 with defers := d :: a1.defers }.put o.dst undef) w1 := by
   refine ⟨hreb.inv.pinned _ none _ _ (fun l h => by cases h), ?_, fun x y hy => ?_, ⟨[], ?_, List.nodup_nil, fun d hd => by cases hd⟩, hs1.big, hs1.pin⟩
   ·cases hd : o.dst <;> simp [Act.put, hs1.size]
   ·simp only at hy
    split at hy
    ·rename_i hge
     refine ⟨.inr hge, ?_⟩
     have e : yfg (bD B lv1 w1 (d :: a1.defers) gv) ({ a1 with defers := d :: a1.defers }.put o.dst undef) x = gv x := by simp only [yfg]; rw [if_neg (by omega)]; rfl
     rw [e]
     have hval : ∃ u, (args.map a1.eval ++ vs)[x - 1000000]? = some u ∧ Rel (ybn B ok0 lv1 w1) w1 lv1 y u := by
      by_cases hxl : x - 1000000 < xs.length
      ·rw [List.getElem?_append_left hxl] at hy
       have hl2 : x - 1000000 < (args.map a1.eval).length := by rw [har.1]; exact hxl
       exact ⟨(args.map a1.eval)[x - 1000000], by rw [List.getElem?_append_left hl2, List.getElem?_eq_getElem hl2], har.2 _ y _ hy (List.getElem?_eq_getElem hl2)⟩
      ·rw [List.getElem?_append_right (by omega)] at hy
       have hl2 : x - 1000000 - xs.length < vs.length := by have := (List.getElem?_eq_some_iff.1 hy).1; rw [hl]; exact this
       exact ⟨vs[x - 1000000 - xs.length], by rw [List.getElem?_append_right (by rw [har.1]; omega), har.1, List.getElem?_eq_getElem hl2], hrc _ y _ hy (List.getElem?_eq_getElem hl2)⟩
     obtain ⟨u, hu1, hu2⟩ := hval
     have : gv x = u := by simp only [gv, List.getD_eq_getElem?_getD, hu1, Option.getD_some]
     rw [this]
     exact hu2.keep fun g hg => ⟨⟨.inl hg, hg.2.1, hg.2.2⟩, rfl⟩
    ·rename_i hge
     have hput := (hreb.put (d := o.dst) (u := undef) hdst hreb.inv (Below.refl _ _) (.v _)).frame x y hy
     refine ⟨hput.1, ?_⟩
     have e : yfg (bD B lv1 w1 (d :: a1.defers) gv) ({ a1 with defers := d :: a1.defers }.put o.dst undef) x = yfg (bD B lv1 w1 a1.defers gv) (a1.put o.dst undef) x := by
      simp only [yfg]
      rw [if_pos (by omega), if_pos (by omega)]
      cases o.dst <;> rfl
     rw [e]
     exact hput.2
   ·cases hd : o.dst <;> rfl
  have hrest := yxg (B := bD B lv1 w1 (d :: a1.defers) gv) (ok0 := ybn B ok0 lv1 w1) (Q' := ztx P N B ok0 Q) (n := 0) (rest := []) (fun s2 lv2 a2 w2 hq2 hs2 => ?_) hlex hn2 (k + 1) (fun j o' ho' => ?_) lv1 _ w1 hsim
  ·rw [hFW]; exact hrest
  ·refine .inr ⟨f, args.map a1.eval ++ vs, d, s1, lv1, a1, w1, s2, lv2, hs1, ⟨.func f, vs.toArray, rfl, fun w => ?_⟩, ?_, hs2⟩
   ·simp only [invoke, d]
    rw [ykb hbody]
    simp
   ·rw [List.length_append, har.1, hl]; exact hq2
  ·rw [← h2, List.getElem?_drop] at ho'
   simpa using ho'
 ·rw [← h1, List.getElem?_take] at ho'
  split at ho'
  ·rw [Nat.zero_add]; simpa using ho'
  ·cases ho'
def zkp : Exit → Option FrameMode
 | .normal => some .returning
 | .ret => some .returning
 | .panic ch => some (.panicking ch)
 | _ => none
def ztt (P : Program) (T : Nat → Option Ty) (rs : List ResultVar) (r : AV) (hs' : Nat → Option LObj) : Option (FuncId × Nat) → Exit → SS → Prop
 | none, e, s => zmy T rs r hs' e s
 | some (g, n), e, s => ∃ (u u' : FrameMode) (args0 : List AV) (hm : Nat → Option LObj) (v : AV) (hm' : Nat → Option LObj) (σ : Nat → Nat) (ids : List Nat) (s2 : SS), zkp e = some u ∧ settle u' = .returning ∧ args0.length = n ∧ (∀ i x, args0[i]? = some x → s.t (1000000 + i) = some (yff σ x)) ∧ ztj (KD P g u u') args0 hm v hm' ∧
   ((∀ i ∈ ids, ∀ j ∈ ids, σ i = σ j → i = j) ∧ (∀ id, (hm id).isSome → id ∈ ids) ∧ (∀ id, (hm' id).isSome → id ∈ ids) ∧ (∀ id o, hm id = some o → s.h (σ id) = some (yyy σ o)) ∧ (∀ id o, hm' id = some o → yqq ids o = true) ∧
    (∀ x y, s2.t x = some y → (y = .any ∧ ∃ z, s.t x = some z) ∨ (s.t x = some y ∧ zuu σ ids hm' y)) ∧ (∀ i ∈ ids, s2.h (σ i) = (hm' i).map (yyy σ)) ∧ ∀ j ob', (∀ i ∈ ids, σ i ≠ j) → s2.h j = some ob' → (∀ i ∈ ids, yfv (σ i) ob' = false) ∧ ∃ ob, s.h j = some ob ∧ ylr ob ob') ∧
   (∀ x, 1000000 ≤ x → s2.t x = none) ∧ ∃ x, ytl T s2 rs = some x ∧ Wk x r ∧ ∀ id o, hs' id = some o → s2.h id = some o
theorem zjn {T : Nat → Option Ty} (hT : TOK P T) {f : FuncId} {fn : Func} {c : Code} {rs : List ResultVar} {args : List AV} {hs hs' : Nat → Option LObj} {r : AV} (hf : P.funcs[f]? = some fn) (hn : (fn.name == "runtime.NumGoroutine") = false) (hb : fn.body = some c) (hN : fn.ntmps = N) (hrs : fn.results = rs.toArray) (hlen : (Nat.ble args.length N && Nat.ble N 1000000) = true)
  (hcl : ∀ id o, hs' id = some o → isC o = true → N ≤ id ∧ ∃ o', hs id = some o' ∧ isC o' = true) (h : AF P N c (ztt P T rs r hs') ⟨look (ygb 0 args), hs⟩) : yva P f args hs r hs' := by
 refine ⟨⟨fn, hf, hn, by simp [hb]⟩, fun id o hx hc => (hcl id o hx hc).2, fun ok0 lv w us hi hus => ?_⟩
 refine (callsIn_wide (n := 0)).1 (callsIn_of_wp_marks hf hb trivial ?_)
 refine wpIn_mono (h _ ok0 _ _ w rfl rfl (znu hN hlen hi hus)) fun e a' w' hp => ?_
 rcases hp with ⟨s', lv', hq, hs2⟩ | ⟨g, vs, d, s0, lv0, a0, w0, s', lv', p1, ⟨fv, cap, p2, p3⟩, ⟨u, u', args0, hm, v, hm', σ, ids, s2, q1, q2, q3, q4, q5, ⟨c1, c2, c3, c4, c5, c6, c7, c8⟩, q6, x, q7, q8, q9⟩, p4⟩
 ·cases e with
  | normal => obtain ⟨x, hx, h1, h2⟩ := hq; exact yda rfl rfl (fun a2 w2 hs3 => zss hT hrs hcl hi hs3 hx h1 h2) _ a' w' rfl hs2
  | ret => obtain ⟨x, hx, h1, h2⟩ := hq; exact yda rfl rfl (fun a2 w2 hs3 => zss hT hrs hcl hi hs3 hx h1 h2) _ a' w' rfl hs2
  | _ => exact hq.elim
 have hu : u ≠ .run := by
  cases e <;> simp only [zkp, Option.some.injEq] at q1 <;> first | (subst q1; simp) | cases q1
 have main : LeavesInM Fence.wide 0 P fn a'.tmps (fun e w' => ∃ u lv', e = .returned u ∧ Rel (ybn (yfr w lv) ok0 lv' w') w' lv' r u ∧ Inv (yfr w lv) ok0 hs' lv' w' ∧ ∀ id o, hs' id = some o → isC o = true → ∃ b n n', lv id = some (some b, n) ∧ lv' id = some (some b, n')) a'.defers u w' := by
  obtain ⟨ms, m1, m2, m3⟩ := p4.defers
  rw [m1]
  refine yrk hu (B := bD (bM w lv) lv0 w0 (d :: a0.defers) (fun x => vs.getD (x - 1000000) undef)) (tm := a'.tmps) (fun a1 w1 ht hs1 => ?_) ms a' w' rfl m1 m2 m3 p4
  refine ⟨hu, .inr ⟨fun h => (by cases h), fv, cap, g, vs.toArray, p2, (by rw [p2]; exact p3 w1), fun _ _ => trivial, ?_⟩⟩
  have hvs : yca (ybn (bD (bM w lv) lv0 w0 (d :: a0.defers) (fun x => vs.getD (x - 1000000) undef)) (ybn (bM w lv) ok0 lv0 w0) lv' w1) w1 lv' (args0.map (yff σ)) vs := by
   refine ⟨by rw [List.length_map, q3], fun i y z hy hz => ?_⟩
   rw [List.getElem?_map] at hy
   cases hx : args0[i]? with
   | none => rw [hx] at hy; cases hy
   | some x0 =>
    rw [hx] at hy
    simp only [Option.map_some, Option.some.injEq] at hy
    subst hy
    have := (hs1.frame _ _ (q4 i x0 hx)).2
    have e : yfg (bD (bM w lv) lv0 w0 (d :: a0.defers) (fun x => vs.getD (x - 1000000) undef)) a1 (1000000 + i) = z := by
     simp only [yfg]
     rw [if_neg (by omega)]
     simp only [bD, Nat.add_sub_cancel_left, List.getD_eq_getElem?_getD, hz, Option.getD_some]
    rw [e] at this
    exact this
  have hcall := lendK (K := KD P g u u') (fun us w R R' h hk => KD.mono h hk) hs1 hvs q5 c1 c2 c3 c4 c5 c6 c7 c8
  refine CallsDIn.mono hcall fun e u2 w2 ⟨hu2, v2, lv2, he, hs2⟩ => ?_
  subst he hu2
  simp only
  rw [q2]
  have hds : yyz (bM w lv) w2 a0.defers := p1.defers.same fun D hD => by
   have hlt := (Array.getElem?_eq_some_iff.1 hD).1
   exact (hs2.inv.base.block D hlt (fun ⟨id, n, hn⟩ => (p1.inv.lvat hn).choose_spec.2.2.2.notDef hD)).trans hD
  have hs3 := Sim.unbase p1 rfl hs2 hds q6
  rw [← ht]
  exact yda (B := bM w lv) rfl rfl (fun a2 w3 hs4 => zss hT hrs hcl hi hs4 q7 q8 q9) _ { a1 with defers := a0.defers } w2 rfl hs3
 cases e <;> simp only [zkp, Option.some.injEq] at q1 <;> first | (subst q1; exact main) | cases q1
end
section
variable {P : Program} {ty : TypeId} {h : Nat → Option LObj} {ρ : Operand → Option AV}
theorem yield_eqNilYes {x : Operand} {c : Value} {ti : TypeId} {ty' : TypeId} (hu : P.underlying ti = some (.interface (P.methodsAt ti))) (hx : ρ x = some (.v .nilIface)) (hy : ρ (.const c) = some (.v .nilIface)) : ybw P h ρ (.binOp .eql ti x (.const c) ty') ty (.v (.bool true)) := by
 refine yck (fun _ _ => by simp) (by simp [yfx, Op.operands, hx, hy, toV]) fun w => ?_
 simp [execOp, ydv hx, ydv hy, eqGuard, binOp, run_equal_nil_nil w ti hu]
end
theorem callsDIn_of_wpSIn_marks {P : Program} {F : Fence} {n : Nat} {f : FuncId} {fn : Func} {c : Code} {args : Array Value} {u u' : FrameMode} {w : World} {R : Ending → World → Prop} (hf : P.funcs[f]? = some fn) (hb : fn.body = some c) (hF : F.fn f)
  (h : ∀ (c₀ : Frame) (cs : List Frame), c₀.mode = u → c.wpSIn F n P (fun e a cs' w' => (e = .normal ∨ e = .ret) ∧ cs' = { c₀ with mode := u' } :: cs ∧ ypy P (fun w2 => ∃ v, (results fn a.tmps).run P w2 = .ok v w2 ∧ R (.returned v) w2) a.defers w') { tmps := args ++ Array.replicate (fn.ntmps - args.size) undef, defers := [] } (c₀ :: cs) w) :
  CallsDIn F n P f args u w fun e u2 w' => u2 = u' ∧ R e w' := by
 refine ⟨hF, fun c₀ cs hu hroom => ?_⟩
 let b : Frame := { (default : Frame) with fn := f, kind := .deferred, roundOf := none }
 have henter : Frame.enter P f args .deferred =
   b.atR { tmps := args ++ Array.replicate (fn.ntmps - args.size) undef, defers := [] } [.code c] := by
  simp [Frame.enter, Frame.atR, hf, hb, b]
 obtain ⟨e, a', cs', w', hl, ⟨he, hcs, hq⟩, harr⟩ := h c₀ cs hu b [] rfl rfl hF hroom
 rw [← henter] at harr
 subst hcs
 have hroom' : F.room (({ c₀ with mode := u' } :: cs).length + 1 + n) := hroom
 rcases he with rfl | rfl
 ·obtain ⟨w2, ⟨v, g1, g2⟩, g3⟩ := yjh (F := F) (n := n) a'.defers w' { b.atR a' [] with mode := .returning } ({ c₀ with mode := u' } :: cs) rfl rfl hF hroom' hq
  exact ⟨.returned v, u', w2, _, ⟨rfl, g2⟩, StepsIn.trans (StepsIn.trans harr (.one (fenced_calm (fr := b.atR a' []) hF hroom' rfl) (stepR_end rfl))) g3, rfl, rfl, rfl, rfl, fn, hf, g1⟩
 ·obtain ⟨todo, hs⟩ := harr.1 rfl
  obtain ⟨w2, ⟨v, g1, g2⟩, g3⟩ := yjh (F := F) (n := n) a'.defers w' { b.atR a' todo with mode := .returning } ({ c₀ with mode := u' } :: cs) rfl rfl hF hroom' hq
  exact ⟨.returned v, u', w2, _, ⟨rfl, g2⟩, StepsIn.trans hs g3, rfl, rfl, rfl, rfl, fn, hf, g1⟩
inductive Rec : FrameMode → Value → FrameMode → Prop
 | idle : Rec .returning .nilIface .returning
 | caught (v : Value) (older : List PanicEntry) : Rec (.panicking ({ v := v, recovered := false } :: older)) v (.panicking ({ v := v, recovered := true } :: older))
theorem wpSIn_recover {F : Fence} {n : Nat} {P : Program} {Q : Exit → Act → List Frame → World → Prop} {id : Nat} {o : Oper} {l1 : List Oper} {ats : Array TypeId} {a : Act} {c₀ : Frame} {cs : List Frame} {w : World} {u u' : FrameMode} {v : Value} (hro : F.round = none) (hop : o.op = .call { callee := .builtin .recover, args := #[], argTypes := ats }) (hgd : o.guard = none) (hu : c₀.mode = u) (hrec : Rec u v u')
  (h : wpOpsIn F n P (o :: l1).toArray (fun e a' w' => Q e a' ({ c₀ with mode := u' } :: cs) w') (List.range' 1 l1.length) (a.put o.dst v) w) : (Code.region id (o :: l1).toArray false).wpSIn F n P Q a (c₀ :: cs) w := by
 intro b k hb hr hF hroom
 have hsp : List.range (o :: l1).toArray.size = 0 :: List.range' 1 l1.length := by
  rw [List.size_toArray, List.range_eq_range', List.length_cons, List.range'_succ]
 have hg0 : (o :: l1).toArray[0]? = some o := by simp
 have hw : Region.wanted o (yielded (o :: l1).toArray a.tmps) = true := by simp [Region.wanted, hgd]
 have hrun : (execOp a.eval o).run P w = .ok .recover w := by
  unfold execOp
  simp only [hop, resolve, Sem.run_bind, Sem.run_pure, Result.andThen_ok, invoke, builtin]
 have habout : ∀ f, o.about P w a.eval = some f → F.fn f := by
  intro f hf
  simp [Oper.about, hop, resolve, Target.leads] at hf
 have h0 : (lone (b.atR a (.inRegion (o :: l1).toArray (0 :: List.range' 1 l1.length) :: k)) (c₀ :: cs) w).fenced P F := fenced_oper hF hroom hg0 habout
 have hg := stepGR_op (P := P) (b := b) (k := k) (cs := c₀ :: cs) (w := w) (rest := List.range' 1 l1.length) hg0 hw
 rw [hr, Oper.semAt_none] at hg
 have hfin : ∀ v, (b.atR a (.inRegion (o :: l1).toArray (0 :: List.range' 1 l1.length) :: k)).finish v = b.atR (a.put o.dst v) (.inRegion (o :: l1).toArray (List.range' 1 l1.length) :: k) := by
  intro v; rw [Frame.finish_atR, hg0]; rfl
 have hk : (b.atR a (.inRegion (o :: l1).toArray (0 :: List.range' 1 l1.length) :: k)).kind = .deferred := hb
 have htr := tryRecover_deferred hk (c₀ :: cs)
 have hroom' : F.room (({ c₀ with mode := u' } :: cs).length + 1 + n) := hroom
 obtain ⟨e, a', w', hq, harr⟩ := wp_opsIn _ _ w h b k ({ c₀ with mode := u' } :: cs) (hr.trans hro.symm) hF hroom'
 refine ⟨e, a', { c₀ with mode := u' } :: cs, w', rfl, hq, .of_steps (.head (fenced_calm hF hroom rfl) stepR_region ?_) harr⟩
 rw [hsp]
 refine .one h0 (step_lone_go ?_)
 rw [hg, ← hfin]
 cases hrec with
 | idle =>
  have hrc : recoverD (c₀ :: cs) = none := by simp [recoverD, hu]
  have hc : ({ c₀ with mode := .returning } : Frame) = c₀ := by rw [← hu]
  rw [hc]
  simp only [Frame.atR, hr] at htr ⊢
  simp [stepG.apply, hrun, htr, hrc]
 | caught v older =>
  have hrc : recoverD (c₀ :: cs) = some (v, { c₀ with mode := .panicking ({ v := v, recovered := true } :: older) } :: cs) := by simp [recoverD, hu]
  simp only [Frame.atR, hr] at htr ⊢
  simp [stepG.apply, hrun, htr, hrc]
theorem conKD_recover {P : Program} {T : Nat → Option Ty} (hT : TOK P T) {f : FuncId} {fn : Func} {id d : Nat} {o : Oper} {l1 : List Oper} {y : Code} {lf : Oper → Bool} {ats : Array TypeId} {N : Nat} {rs : List ResultVar} {args : List AV} {hs hs' : Nat → Option LObj} {r : AV} {u u' : FrameMode} {v : Value} (hf : P.funcs[f]? = some fn) (hb : fn.body = some (.seq (.region id (o :: l1).toArray false) y)) (hN : fn.ntmps = N) (hrs : fn.results = rs.toArray) (hlen : (Nat.ble args.length N && Nat.ble N 1000000) = true)
  (hcl : ∀ id o, hs' id = some o → isC o = true → N ≤ id ∧ ∃ o', hs id = some o' ∧ isC o' = true) (hop : o.op = .call { callee := .builtin .recover, args := #[], argTypes := ats }) (hgd : o.guard = none) (hdst : o.dst = some d) (hd : d < N) (hnd : ygd l1 = true) (hrec : Rec u v u')
  (h : Lex P N (o :: l1).toArray lf (A P N y (zmy T rs r hs')) l1 ⟨look ((d, .v v) :: ygb 0 args), hs⟩) : ztj (KD P f u u') args hs r hs' := by
 refine ⟨fun id o hx hc => (hcl id o hx hc).2, fun ok0 lv w us hi hus => callsDIn_of_wpSIn_marks hf hb trivial fun c₀ cs hu => ?_⟩
 have hsim := znu hN hlen hi hus (n := fn.ntmps)
 refine wpSIn_seq (wpSIn_recover rfl hop hgd hu hrec ?_)
 have hput : Sim (bM w lv) ok0 N ⟨look ((d, .v v) :: ygb 0 args), hs⟩ lv (({ tmps := us.toArray ++ Array.replicate (fn.ntmps - us.toArray.size) undef, defers := [] } : Act).put o.dst v) w := by
  have := hsim.put (d := o.dst) (r := .v v) (u := v) (fun x hx => by rw [hdst] at hx; cases hx; exact hd) hsim.inv (Below.refl _ _) (.v _)
  rw [hdst] at this ⊢
  rw [← ydi]
  exact this
 have := yxg (B := bM w lv) (ok0 := ok0) (n := 0) (rest := []) (Q' := fun e a' w' => Exit.thenS (y.wpSIn Fence.wide 0 P (fun e a cs' w' => (e = .normal ∨ e = .ret) ∧ cs' = { c₀ with mode := u' } :: cs ∧ ypy P (fun w2 => ∃ v, (results fn a.tmps).run P w2 = .ok v w2 ∧ ∃ u lv', Ending.returned v = .returned u ∧ Rel (ybn (yfr w lv) ok0 lv' w2) w2 lv' r u ∧ Inv (yfr w lv) ok0 hs' lv' w2 ∧ ∀ id o, hs' id = some o → isC o = true → ∃ b n n', lv id = some (some b, n) ∧ lv' id = some (some b, n')) a.defers w'))
  (fun e a cs' w' => (e = .normal ∨ e = .ret) ∧ cs' = { c₀ with mode := u' } :: cs ∧ ypy P (fun w2 => ∃ v, (results fn a.tmps).run P w2 = .ok v w2 ∧ ∃ u lv', Ending.returned v = .returned u ∧ Rel (ybn (yfr w lv) ok0 lv' w2) w2 lv' r u ∧ Inv (yfr w lv) ok0 hs' lv' w2 ∧ ∀ id o, hs' id = some o → isC o = true → ∃ b n n', lv id = some (some b, n) ∧ lv' id = some (some b, n')) a.defers w') e a' ({ c₀ with mode := u' } :: cs) w') (fun s1 lv1 a1 w1 hq hs1 => ?_) h hnd 1 (fun j o' ho' => by rw [Nat.add_comm]; simpa using ho') lv _ w hput
 ·rw [List.append_nil] at this
  exact this
 ·show y.wpSIn _ _ _ _ _ _ _
  refine wpSIn_of_wpIn rfl ?_
  refine wpIn_mono (hq (bM w lv) ok0 lv1 a1 w1 hs1) fun e a' w' ⟨s', lv', hq2, hs2⟩ => ?_
  cases e with
  | normal => obtain ⟨x, hx, h1, h2⟩ := hq2; exact ⟨.inl rfl, rfl, yrp (B := bM w lv) (tm := a'.tmps) rfl (fun a2 w2 ht hs3 => by have := zss hT hrs hcl hi hs3 hx h1 h2 (fn := fn); rwa [ht] at this) _ a' w' rfl rfl hs2⟩
  | ret => obtain ⟨x, hx, h1, h2⟩ := hq2; exact ⟨.inr rfl, rfl, yrp (B := bM w lv) (tm := a'.tmps) rfl (fun a2 w2 ht hs3 => by have := zss hT hrs hcl hi hs3 hx h1 h2 (fn := fn); rwa [ht] at this) _ a' w' rfl rfl hs2⟩
  | _ => exact hq2.elim
section
variable {P : Program} {N : Nat}
end
theorem yxx {ids : List Nat} : ∀ {x : AV}, ybf x = true → yen ids x = true
 | .v _, _ => rfl
 | .any, _ => rfl
 | .one, _ => rfl
 | .sl _ _, _ => rfl
 | .dp _ _, _ => rfl
 | .mv _, _ => rfl
 | .agg cs, h => rows (cs := cs) h
 | .tup cs, h => rows (cs := cs) h
 | .fn _ cs, h => rows (cs := cs) h
 | .fm _ cs, h => rows (cs := cs) h
 where rows : ∀ {cs : List AV}, ybf.pureL cs = true → yen.onlyL ids cs = true
 | [], _ => rfl
 | c :: cs, h => by
  simp only [ybf.pureL, Bool.and_eq_true] at h
  simp only [yen.onlyL, yxx h.1, rows h.2, Bool.and_self]
theorem yvr : ∀ (x : AV), yff (fun i => i) x = x
 | .v _ => rfl
 | .any => rfl
 | .one => rfl
 | .sl _ _ => rfl
 | .dp _ _ => rfl
 | .mv _ => rfl
 | .lp _ _ => rfl
 | .ls _ _ _ => rfl
 | .mp _ => rfl
 | .agg cs => by simp only [yff, rows cs]
 | .tup cs => by simp only [yff, rows cs]
 | .fn _ cs => by simp only [yff, rows cs]
 | .fm _ cs => by simp only [yff, rows cs]
 where rows : ∀ (cs : List AV), yff.renL (fun i => i) cs = cs
 | [] => rfl
 | c :: cs => by simp only [yff.renL, yvr c, rows cs]
theorem zla (o : LObj) : yyy (fun i => i) o = o := by cases o <;> simp only [yyy, yvr.rows]
def ydz (hs : List (Nat × Option LObj)) : List Nat := hs.map (·.1)
theorem ygh {hs : List (Nat × Option LObj)} : ∀ {id : Nat}, (yad hs id).isSome → id ∈ ydz hs := by
 induction hs with
 | nil => intro id h; cases h
 | cons x hs ih =>
  intro id h
  obtain ⟨k, o⟩ := x
  simp only [yad] at h
  cases hb : Nat.beq id k with
  | true => simp [ydz, Nat.eq_of_beq_eq_true hb]
  | false => rw [hb] at h; simp only at h; exact List.mem_cons_of_mem _ (ih h)
theorem hlook_out {hs : List (Nat × Option LObj)} {id : Nat} (h : id ∉ ydz hs) : yad hs id = none := by
 cases hq : yad hs id with
 | none => rfl
 | some o => exact absurd (ygh (by rw [hq]; rfl)) h
theorem yla {f g : List (Nat × Option LObj)} {id : Nat} (h : id ∉ ydz f) : yad (f ++ g) id = yad g id := by
 induction f with
 | nil => rfl
 | cons x f ih =>
  obtain ⟨k, o⟩ := x
  simp only [ydz, List.map_cons, List.mem_cons, not_or] at h
  simp only [List.cons_append, yad]
  cases hb : Nat.beq id k with
  | true => exact absurd (Nat.eq_of_beq_eq_true hb) h.1
  | false => exact ih h.2
theorem zfh {f g : List (Nat × Option LObj)} {id : Nat} (h : id ∉ ydz g) : yad (f ++ g) id = yad f id := by
 induction f with
 | nil => exact hlook_out h
 | cons x f ih =>
  obtain ⟨k, o⟩ := x
  simp only [List.cons_append, yad]
  cases hb : Nat.beq id k with
  | true => rfl
  | false => exact ih
section
variable {P : Program} {N : Nat} {ops : Array Oper} {lf : Oper → Bool} {Q : SS → Prop} {t t' : List (Nat × AV)} {pre hs hs' : List (Nat × Option LObj)} {rest : List Oper} {d : Nat} {ty : TypeId} {pos : String} {af : Array Edge} {gd : Option (Nat × Bool)}
structure Ahead (pre hs : List (Nat × Option LObj)) : Prop where
 keys : ∀ i ∈ ydz hs, i ∉ ydz pre
 ment : ∀ j ob, yad pre j = some ob → ∀ i ∈ ydz hs, yfv i ob = false
theorem zja {g : Operand} {args : List Operand} {ats : Array TypeId} {f : FuncId} {caps xs : List AV} {r : AV} (hc : yva P f (xs ++ caps) (yad hs) r (yad hs')) (hpr : ybf r = true) (hg : yzf (evF (look t) g) f caps args) (hx : evL (evF (look t)) args = some xs) (ha : Ahead pre (hs ++ hs')) (hro : ∀ id o, yad hs' id = some o → yqq (ydz (hs ++ hs')) o = true)
  (ht : ∀ x y, look t' x = some y → look t x = some y ∧ ∀ i ∈ ydz (hs ++ hs'), ment i y = false) (hl : lf ⟨some d, .call { callee := .value g, args := args.toArray, argTypes := ats }, ty, pos, af, gd⟩ = true) (hw : yaj ops (look t) ⟨some d, .call { callee := .value g, args := args.toArray, argTypes := ats }, ty, pos, af, gd⟩ = some true) (hd : Nat.blt d N = true)
  (k : Lex P N ops lf Q rest (S ((d, r) :: t') (pre ++ hs'))) : Lex P N ops lf Q (⟨some d, .call { callee := .value g, args := args.toArray, argTypes := ats }, ty, pos, af, gd⟩ :: rest) (S t (pre ++ hs)) := by
 refine yec hl hw ?_ k
 have hk1 : ∀ i, i ∈ ydz hs → i ∈ ydz (hs ++ hs') := fun i hi => by simp only [ydz, List.map_append, List.mem_append] at hi ⊢; exact .inl hi
 have hk2 : ∀ i, i ∈ ydz hs' → i ∈ ydz (hs ++ hs') := fun i hi => by simp only [ydz, List.map_append, List.mem_append] at hi ⊢; exact .inr hi
 refine yoh (σ := fun i => i) (ids := ydz (hs ++ hs')) rfl rfl (by simpa using hd) hg hx (by rw [show (yff fun i => i) = id from funext yvr]; simp) hc (fun _ _ _ _ h => h) (fun id h => hk1 id (ygh h)) (fun id h => hk2 id (ygh h)) (fun id o ho => ?_) (yxx hpr) hro (fun x y hy => ?_) (fun i hi => ?_) (fun j ob' hj hob => ?_)
 ·show yad (pre ++ hs) id = _
  rw [yla (ha.keys id (hk1 id (ygh (by rw [ho]; rfl)))), ho, zla]
 ·simp only [S, look] at hy
  cases hb : Nat.beq x d with
  | true => rw [hb] at hy; simp only [Option.some.injEq] at hy; exact .inl ⟨Nat.eq_of_beq_eq_true hb, by rw [yvr]; exact hy.symm⟩
  | false =>
   rw [hb] at hy
   simp only at hy
   obtain ⟨h1, h2⟩ := ht x y hy
   exact .inr ⟨fun e => (by subst e; rw [Nat.beq_refl] at hb; cases hb), .inr ⟨h1, .inl h2⟩⟩
 ·show yad (pre ++ hs') i = _
  rw [yla (ha.keys i hi)]
  cases yad hs' i <;> simp [zla]
 ·have hob : yad (pre ++ hs') j = some ob' := hob
  rw [zfh fun hm => hj j (hk2 j hm) rfl] at hob
  refine ⟨fun i hi => ha.ment j ob' hob i hi, ob', ?_, .inl rfl⟩
  show yad (pre ++ hs) j = _
  rw [zfh fun hm => hj j (hk1 j hm) rfl]
  exact hob
theorem L_callI {g : Operand} {args : List Operand} {ats : Array TypeId} {f : FuncId} {caps xs : List AV} {r : AV} (hc : yva P f (xs ++ caps) (yad hs) r (yad hs')) (hpr : ybf r = true) (hg : evF (look t) g = some (.fn f caps)) (hx : evL (evF (look t)) args = some xs) (ha : Ahead pre (hs ++ hs')) (hro : ∀ id o, yad hs' id = some o → yqq (ydz (hs ++ hs')) o = true)
  (ht : ∀ x y, look t' x = some y → look t x = some y ∧ ∀ i ∈ ydz (hs ++ hs'), ment i y = false) (hl : lf ⟨some d, .call { callee := .value g, args := args.toArray, argTypes := ats }, ty, pos, af, gd⟩ = true) (hw : yaj ops (look t) ⟨some d, .call { callee := .value g, args := args.toArray, argTypes := ats }, ty, pos, af, gd⟩ = some true) (hd : Nat.blt d N = true)
  (k : Lex P N ops lf Q rest (S ((d, r) :: t') (pre ++ hs'))) : Lex P N ops lf Q (⟨some d, .call { callee := .value g, args := args.toArray, argTypes := ats }, ty, pos, af, gd⟩ :: rest) (S t (pre ++ hs)) :=
 zja hc hpr (.inl hg) hx ha hro ht hl hw hd k
theorem L_callIm {g : Operand} {ats : Array TypeId} {f : FuncId} {caps : List AV} {r : AV} (hc : yva P f caps (yad hs) r (yad hs')) (hpr : ybf r = true) (hg : evF (look t) g = some (.fm f caps)) (ha : Ahead pre (hs ++ hs')) (hro : ∀ id o, yad hs' id = some o → yqq (ydz (hs ++ hs')) o = true)
  (ht : ∀ x y, look t' x = some y → look t x = some y ∧ ∀ i ∈ ydz (hs ++ hs'), ment i y = false) (hl : lf ⟨some d, .call { callee := .value g, args := #[], argTypes := ats }, ty, pos, af, gd⟩ = true) (hw : yaj ops (look t) ⟨some d, .call { callee := .value g, args := #[], argTypes := ats }, ty, pos, af, gd⟩ = some true) (hd : Nat.blt d N = true)
  (k : Lex P N ops lf Q rest (S ((d, r) :: t') (pre ++ hs'))) : Lex P N ops lf Q (⟨some d, .call { callee := .value g, args := #[], argTypes := ats }, ty, pos, af, gd⟩ :: rest) (S t (pre ++ hs)) :=
 zja (args := []) (xs := []) hc hpr (.inr ⟨hg, rfl⟩) rfl ha hro ht hl hw hd k
end
def zwj (f : Nat → Option AV) : List (Nat × AV) → Prop
 | [] => True
 | (x, y) :: t => f x = some y ∧ zwj f t
theorem yyk {f : Nat → Option AV} : ∀ {t : List (Nat × AV)}, zwj f t → ∀ x y, look t x = some y → f x = some y
 | [], _, x, y, h => by simp [look] at h
 | (a, z) :: t, hs, x, y, h => by
  simp only [look] at h
  cases hb : Nat.beq x a with
  | true => rw [hb] at h; simp only [Option.some.injEq] at h; subst h; rw [Nat.eq_of_beq_eq_true hb]; exact hs.1
  | false => rw [hb] at h; exact yyk hs.2 x y h
def zvw (t : List (Nat × AV)) : Nat → List AV → Prop
 | _, [] => True
 | i, x :: l => look t (1000000 + i) = some x ∧ zvw t (i + 1) l
theorem zll {t : List (Nat × AV)} : ∀ {l : List AV} {k i : Nat} {x : AV}, zvw t k l → l[i]? = some x → look t (1000000 + (k + i)) = some x
 | [], k, i, x, h, hx => by simp at hx
 | y :: l, k, 0, x, h, hx => by simp only [List.getElem?_cons_zero, Option.some.injEq] at hx; subst hx; exact h.1
 | y :: l, k, i + 1, x, h, hx => by have := zll h.2 (i := i) (by simpa using hx); rwa [show k + 1 + i = k + (i + 1) by omega] at this
theorem yzt {P : Program} {T : Nat → Option Ty} {t : List (Nat × AV)} {h : List (Nat × Option LObj)} (sg : List (Nat × Nat)) {rs : List ResultVar} {r : AV} {hs' : Nat → Option LObj} {g : FuncId} {n : Nat} {e : Exit} {u u' : FrameMode} {args0 : List AV} {hm hm' h' : List (Nat × Option LObj)} {v x : AV} (hmode : zkp e = some u) (hset : settle u' = .returning) (hn : args0.length = n) (ha : zvw t 0 (args0.map (yff (yeu sg)))) (hc : ztj (KD P g u u') args0 (yad hm) v (yad hm'))
  (hk : yef (ybm sg) = true) (hv : yef (ycj sg) = true) (hd1 : yss (ybm sg) hm = true) (hd2 : yss (ybm sg) hm' = true) (hsub : yus h (zmk sg hm)) (ho : ynp (ybm sg) hm' = true) (hh : ∀ j ob', j ∉ ycj sg → yad h' j = some ob' → (∀ i ∈ ycj sg, yfv i ob' = false) ∧ ∃ ob, yad h j = some ob ∧ ylr ob ob')
  (hx : ytl T (S (yky sg hm' (zqg t)) (yng sg hm' sg ++ h')) rs = some x) (hwk : Wk x r) (hend : ∀ id o, hs' id = some o → yad (yng sg hm' sg ++ h') id = some o) : ztt P T rs r hs' (some (g, n)) e (S t h) := by
 refine ⟨u, u', args0, yad hm, v, yad hm', yeu sg, ybm sg, S (yky sg hm' (zqg t)) (yng sg hm' sg ++ h'), hmode, hset, hn, fun i x hx => ?_, hc, ⟨yyi hv, yhd hd1, yhd hd2, ysa hsub, yji ho, fun x y hy => ?_, fun i hi => yve hk hv i hi, fun j ob' hj hob => ?_⟩, fun x hge => ?_, x, hx, hwk, hend⟩
 ·have := zll ha (i := i) (x := yff (yeu sg) x) (by simp [hx])
  rwa [Nat.zero_add] at this
 ·have hlow : ∀ z, look (zqg t) x = some z → look t x = some z := fun z hz => by
   rw [yxi] at hz
   cases hb : Nat.ble 1000000 x with
   | true => rw [hb] at hz; cases hz
   | false => rw [hb] at hz; exact hz
  rcases yhe hy with ⟨h1, z, h2⟩ | ⟨h1, h2⟩
  ·exact .inl ⟨h1, z, hlow z h2⟩
  ·exact .inr ⟨hlow y h1, ysz hk h2⟩
 ·have hjv : j ∉ ycj sg := fun hm => by
   obtain ⟨i, h1, h2⟩ := ytp hm hk
   exact hj i h1 h2
  simp only [S, ylv hjv] at hob
  obtain ⟨h1, h2⟩ := hh j ob' hjv hob
  exact ⟨fun i hi => h1 _ (yjl hi), h2⟩
 ·show look (yky sg hm' (zqg t)) x = none
  cases hq : look (yky sg hm' (zqg t)) x with
  | none => rfl
  | some y =>
   have : ∃ z, look (zqg t) x = some z := by
    rcases yhe hq with ⟨_, z, h2⟩ | ⟨h1, _⟩
    ·exact ⟨z, h2⟩
    ·exact ⟨y, h1⟩
   obtain ⟨z, hz⟩ := this
   rw [yxi, Nat.ble_eq_true_of_le hge] at hz
   cases hz
end
section
abbrev Bs := List UInt8
def ba (l : Bs) : ByteArray := ⟨l.toArray⟩
def bl (s : ByteArray) : Bs := s.data.toList
end
section
structure PW where
 w : Bs
 k : Nat
 v : Nat
def zwf : List Bs → Bs → Option Nat
 | [], _ => none
 | x :: l, w => if x = w then some 0 else (zwf l w).map (· + 1)
def zqr (first : Int) (l : List Bs) (w : Bs) : Int :=
 if w = [] then 0 else match zwf l w with
  | some i => first + i
  | none => 0
def zvl : List Bs := [[42], [47], [37], [43], [45], [61, 61], [33, 61], [60], [60, 61], [62], [62, 61], [38, 38], [124, 124]]
def aggL : List Bs := [[97, 108, 108], [115, 111, 109, 101], [99, 111, 117, 110, 116], [102, 105, 114, 115, 116], [109, 105, 110], [109, 97, 120], [115, 117, 109], [109, 101, 120], [115, 101, 99, 111, 110, 100], [104, 101, 97, 100]]
def zrk : List Bs := [[116, 114, 117, 101], [102, 97, 108, 115, 101], [110, 111, 110, 101], [], [110], [105, 100, 115], [105, 100], [100, 101, 103], [114, 111, 111, 116]]
def zrm : List Bs := [[105, 100], [100, 101, 103], [114, 111, 111, 116], [119, 101, 105, 103, 104, 116], [98, 97, 99, 107]]
def zsp (w : Bs) : Int := zqr 30 zvl w
def zvi (w : Bs) : Int := zqr 20 aggL w
def znr (w : Bs) : Int := zqr 2 zrk w
def znx (w : Bs) : Int := zqr 13 zrm w
def zug (op : Int) : Nat :=
 if op = 43 then 0 else if op = 42 then 1 else if op = 41 then 2 else if 35 ≤ op ∧ op ≤ 40 then 3 else if op = 33 ∨ op = 34 then 4 else if 30 ≤ op ∧ op ≤ 32 then 5 else if op = 18 ∨ op = 19 then 6 else 7
def zfe : List PW → Bs
 | [] => []
 | t :: _ => t.w
inductive Res where
 | ok (e : List Tm) (rest : List PW)
 | bad (err : Int) (rest : List PW)
inductive NT where
 | choice
 | bin (l : Nat)
 | tail (l : Nat) (left : List Tm)
 | unary
 | prim
variable {nm : Bs → Bool} {names : List Bs}
end
section
abbrev dec (v : Nat) : Bs := Lib.decDigits v
end
section
variable {nm : Bs → Bool} {names : List Bs}
def pwS (w : Bs) : PW := ⟨w, 3, 0⟩
def pwN (w : Bs) : PW := ⟨w, 1, 0⟩
def pwV (n : Nat) : PW := ⟨dec n, 2, n⟩
inductive Wr (names : List Bs) : Nat → Ex → Bs → List PW → Prop
 | down {l : Nat} {E : Ex} {x : Bs} {ws : List PW} (hl : l < 7) (h : Wr names (l + 1) E x ws) : Wr names l E x ws
 | paren {E : Ex} {x : Bs} {ws : List PW} (h : Wr names 0 E x ws) : Wr names 7 E (40 :: (x ++ [41])) (pwS [40] :: (ws ++ [pwS [41]]))
 | choice {a b c : Ex} {xa xb xc : Bs} {wa wb wc : List PW} (ha : Wr names 1 a xa wa) (hb : Wr names 0 b xb wb) (hc : Wr names 0 c xc wc) : Wr names 0 (.tr (43, 0) a b c) (xa ++ (32 :: 63 :: 32 :: (xb ++ (32 :: 58 :: 32 :: xc)))) (wa ++ (pwS [63] :: (wb ++ (pwS [58] :: wc))))
 | bin {op : Int} {l : Nat} {w : Bs} {a b : Ex} {xa xb : Bs} {wa wb : List PW} (h0 : zsp w = op) (hw : w ∈ zvl) (hl : zug op = l) (h3 : l ≠ 3) (ha : Wr names l a xa wa) (hb : Wr names (l + 1) b xb wb) : Wr names l (.bi (op, 0) a b) (xa ++ (32 :: (w ++ (32 :: xb)))) (wa ++ (pwS w :: wb))
 | cmp {op : Int} {w : Bs} {a b : Ex} {xa xb : Bs} {wa wb : List PW} (h0 : zsp w = op) (hw : w ∈ zvl) (hl : zug op = 3) (ha : Wr names 4 a xa wa) (hb : Wr names 4 b xb wb) : Wr names 3 (.bi (op, 0) a b) (xa ++ (32 :: (w ++ (32 :: xb)))) (wa ++ (pwS w :: wb))
 | neg {a : Ex} {xa : Bs} {wa : List PW} (ha : Wr names 6 a xa wa) : Wr names 6 (.un (18, 0) a) (45 :: xa) (pwS [45] :: wa)
 | not {a : Ex} {xa : Bs} {wa : List PW} (ha : Wr names 6 a xa wa) : Wr names 6 (.un (19, 0) a) (33 :: xa) (pwS [33] :: wa)
 | agg {op : Int} {w : Bs} {a : Ex} {xa : Bs} {wa : List PW} (h0 : zvi w = op) (hw : w ∈ aggL) (ha : Wr names 0 a xa wa) : Wr names 7 (.un (op, 0) a) (w ++ (40 :: (xa ++ [41]))) (pwN w :: pwS [40] :: (wa ++ [pwS [41]]))
 | num {n : Nat} (hn : n ≤ 1073741824) : Wr names 7 (.lf (1, n)) (dec n) [pwV n]
 | own {i : Nat} {w : Bs} (h : names[i]? = some w) : Wr names 7 (.lf (5, i)) w [pwN w]
 | near {i : Nat} {w : Bs} (h : names[i]? = some w) : Wr names 7 (.lf (12, i)) (113 :: 46 :: w) [pwN [113], pwS [46], pwN w]
 | here : Wr names 7 (.lf (11, 0)) [113] [pwN [113]]
 | const {op : Int} {w : Bs} (h0 : znr w = op) (hw : w ∈ zrk) (hne : w ≠ []) : Wr names 7 (.lf (op, 0)) w [pwN w]
 | field {op : Int} {w : Bs} (h0 : znx w = op) (hw : w ∈ zrm) : Wr names 7 (.lf (op, 0)) (113 :: 46 :: w) [pwN [113], pwS [46], pwN w]
structure NmOk (nm : Bs → Bool) (names : List Bs) : Prop where
 good : ∀ w ∈ names, nm w = true
 nodup : names.Nodup
 res : ∀ w, nm w = true → znr w = 0 ∧ zvi w = 0 ∧ znx w = 0 ∧ w ≠ [113] ∧ w ≠ [40] ∧ w ≠ [45] ∧ w ≠ [33]
def Fol (l : Nat) (r : List PW) : Prop := (l = 0 → zfe r ≠ [63]) ∧ zfe r ≠ [46] ∧ (zsp (zfe r) = 0 ∨ zug (zsp (zfe r)) < l)
def FolW (l : Nat) (r : List PW) : Prop := zfe r ≠ [46] ∧ (zsp (zfe r) = 0 ∨ zug (zsp (zfe r)) < l ∨ (zug (zsp (zfe r)) = l ∧ l ≠ 3))
theorem Fol.weak {l : Nat} {r : List PW} (h : Fol l r) : FolW l r := ⟨h.2.1, h.2.2.imp id .inl⟩
end
section
open Go.RowKit
theorem skip_drop (r : List UInt8) : ∀ b : Bool, r.drop (ymz b r) ≠ [] → ymz false (r.drop (ymz b r)) = 0 := by
 induction r with
 | nil => intro b h; simp at h
 | cons c r ih =>
  intro b h
  cases b
  ·simp only [ymz] at *
   split at h
   ·rename_i hc; rw [if_pos hc, Nat.add_comm, List.drop_succ_cons] at *; exact ih false h
   ·rename_i hc
    rw [if_neg hc]
    split at h
    ·rename_i h35; rw [if_pos h35, Nat.add_comm, List.drop_succ_cons] at *; exact ih true h
    ·rename_i h35; rw [if_neg h35, List.drop_zero]; simp [ymz, hc, h35]
  ·simp only [ymz] at *
   split at h
   ·rename_i hc; rw [if_pos hc, Nat.add_comm, List.drop_succ_cons] at *; exact ih false h
   ·rename_i hc; rw [if_neg hc, Nat.add_comm, List.drop_succ_cons] at *; exact ih true h
def zre (s : ByteArray) : Nat → List Tok → Prop
 | p, [] => p ≤ s.size ∧ zbf s false p = s.size
 | p, t :: ts => p ≤ s.size ∧ t.from_ = zbf s false p ∧ t.from_ < s.size ∧ zvx (ybb s t.from_) = .ok (t.kind, t.to - t.from_, t.num) ∧ t.from_ < t.to ∧ t.to ≤ s.size ∧ zre s t.to ts
theorem zre.tail {s : ByteArray} {p : Nat} {t : Tok} {ts : List Tok} (h : zre s p (t :: ts)) : zre s t.to ts := h.2.2.2.2.2.2
theorem zre.len {s : ByteArray} : ∀ {ts : List Tok} {p : Nat}, zre s p ts → ts.length + p ≤ s.size := by
 intro ts
 induction ts with
 | nil => intro p h; have := h.1; simp; omega
 | cons t ts ih =>
  intro p h
  have h1 := ih h.tail
  obtain ⟨h2, h3, h4, _, h5, h6, _⟩ := h
  have := (skipTo_bd s false p h2).1
  simp; omega
theorem zre.mem {s : ByteArray} : ∀ {ts : List Tok} {p : Nat}, zre s p ts → ∀ t ∈ ts, t.from_ < s.size ∧ zvx (ybb s t.from_) = .ok (t.kind, t.to - t.from_, t.num) ∧ t.from_ < t.to ∧ t.to ≤ s.size ∧ ymz false (ybb s t.from_) = 0 := by
 intro ts
 induction ts with
 | nil => intro p _ t ht; cases ht
 | cons u ts ih =>
  intro p h t ht
  cases ht with
  | head =>
   obtain ⟨h2, h3, h4, h7, h5, h6, _⟩ := h
   refine ⟨h4, h7, h5, h6, ?_⟩
   rw [h3, ← zem]
   refine skip_drop _ false ?_
   rw [zem, ← h3]
   intro h8
   rw [bytesFrom_nil_iff] at h8; omega
  | tail _ ht => exact ih h.tail t ht
end
section
open Go.RowKit
variable {nm : Bs → Bool} {names : List Bs}
inductive Scans : Bs → List PW → Prop
 | nil {l : Bs} (h : l.drop (ymz false l) = []) : Scans l []
 | cons {l y r : Bs} {k v : Nat} {ws : List PW} (h : l.drop (ymz false l) = y ++ r) (hy : y ≠ []) (ht : zvx (y ++ r) = .ok (k, y.length, v)) (hr : Scans r ws) : Scans l (⟨y, k, v⟩ :: ws)
def WordOk (w : Bs) : Prop := w.length ≤ 24 ∧ (∀ c ∈ w, ylo c = true) ∧ ∃ c x, w = c :: x ∧ ygp c = true
end
section
open Go.RowKit
namespace Ex
def op : Ex → Int
 | lf t => t.1
 | un t _ => t.1
 | bi t _ _ => t.1
 | tr t _ _ _ => t.1
end Ex
variable {names : List Bs}
end
section
variable {nm : Bs → Bool} {names : List Bs}
def Like (r r' : List PW) : Prop := r'.head? = r.head? ∨ r' = []
def EndR (y : Option Res) : Prop := y = none ∨ (∃ x, y = some (.ok x [])) ∨ y = some (.bad 4 [])
def Res.rest : Res → List PW
 | .ok _ r => r
 | .bad _ r => r
def Cut (F : List PW → Option Res) (ts : List PW) : Res → Prop
 | .ok e r => ∀ p, ts = p ++ r → ∀ r', Like r r' → F (p ++ r') = some (.ok e r')
 | .bad c r => r ≠ [] → ∀ p, ts = p ++ r → (∀ r', r'.head? = r.head? → F (p ++ r') = some (.bad c r')) ∧ EndR (F p)
def zvz (F : List PW → Option Res) : Prop := ∀ ts res, F ts = some res → res.rest <:+ ts ∧ Cut F ts res
inductive Looks (F : List PW → Option Res) (t : PW) : Prop
 | takes (A : List PW → Option Res) (hA : zvz A) (h : ∀ r, F (t :: r) = A r) : Looks F t
 | fails (c : Int) (h : ∀ r, F (t :: r) = some (.bad c (t :: r))) : Looks F t
 | leaves (B : List PW → Option Res) (hB : zvz B) (h0 : F [] = B []) (h : ∀ r, F (t :: r) = B (t :: r)) : Looks F t
end
section
open Go.RowKit
variable {nm : Bs → Bool} {names : List Bs}
def zsu (nm : Bs → Bool) (names : List Bs) : Bool := decide (names.length ≤ 6) && (names.all nm && decide names.Nodup)
structure NmW (nm : Bs → Bool) : Prop where
 word : ∀ w, nm w = true → WordOk w
 res : ∀ w, nm w = true → znr w = 0 ∧ zvi w = 0 ∧ znx w = 0 ∧ w ≠ [113] ∧ w ≠ [40] ∧ w ≠ [45] ∧ w ≠ [33]
theorem zab (h : zsu nm names = true) : names.length ≤ 6 ∧ (∀ w ∈ names, nm w = true) ∧ names.Nodup := by
 simp only [zsu, Bool.and_eq_true, decide_eq_true_eq, List.all_eq_true] at h
 exact h
theorem NmW.ok (hN : NmW nm) (h : zsu nm names = true) : NmOk nm names := ⟨(zab h).2.1, (zab h).2.2, hN.res⟩
end
set_option maxRecDepth 100000
section
open Go.RowKit
theorem zob {d id : Nat} {xs : List AV} {h : List (Nat × Option LObj)} (h1 : Nat.beq d id = false) (h2 : ment.mentL d xs = false) (hf : ycb d h = true) : ycb d ((id, some (.cells xs)) :: h) = true := by
 simp [ycb, h1, hf, yfv, h2]
theorem pureA_only {ids : List Nat} : ∀ {x : AV}, ybf x = true → yen ids x = true
 | .v _, _ => rfl
 | .any, _ => rfl
 | .one, _ => rfl
 | .sl _ _, _ => rfl
 | .dp _ _, _ => rfl
 | .mv _, _ => rfl
 | .agg cs, h => rows (cs := cs) h
 | .tup cs, h => rows (cs := cs) h
 | .fn _ cs, h => rows (cs := cs) h
 | .fm _ cs, h => rows (cs := cs) h
 where rows : ∀ {cs : List AV}, ybf.pureL cs = true → yen.onlyL ids cs = true
 | [], _ => rfl
 | c :: cs, h => by
  simp only [ybf.pureL, Bool.and_eq_true] at h
  simp only [yen.onlyL, pureA_only h.1, rows h.2, Bool.and_self]
section
variable {s : ByteArray} {ts ts' : List Tok} {names : List Bs} {us : List Value}
variable {P : Program} {N : Nat} {ops : Array Oper} {lf : Oper → Bool} {Q : SS → Prop} {t : List (Nat × AV)} {h : List (Nat × Option LObj)} {rest : List Oper} {d : Nat} {ty : TypeId} {pos : String} {af : Array Edge} {gd : Option (Nat × Bool)}
end
section
variable {s : ByteArray} {ts : List Tok} {names : List Bs} {us : List Value}
end
end
section
open Go.RowKit
theorem recovered_nil : Con Tryz.prog 151 [.v .nilIface] (.tup [.agg [i64 0, i64 0], ycp false]) := by
 refine yja tok Tryz.func151 rfl rfl Tryz.ntmps151 Tryz.results151 rfl rfl ?_
 (repeat (first | refine zy ?_ | refine ycf (yield_eqNilYes (by kernel_rfl) rfl rfl) rfl rfl ?_))
 refine yaf ?_; refine ⟨_, rfl, ?_⟩
 exact Frz.pure
def zua (p e : Int) : List (Nat × Option LObj) := [(1002, some (.cells [i64 p])), (1003, some (.cells [i64 e]))]
theorem cat_cl {p e p' e' : Int} : ∀ id o, yad (zua p' e') id = some o → isC o = true → 14 ≤ id ∧ ∃ o', yad (zua p e) id = some o' ∧ isC o' = true := by
 intro id o ho hc
 simp only [zua, yad] at ho ⊢
 cases h1 : Nat.beq id 1002 with
 | true => have := Nat.eq_of_beq_eq_true h1; exact ⟨by omega, _, rfl, rfl⟩
 | false =>
  simp only [h1] at ho
  cases h2 : Nat.beq id 1003 with
  | true => have := Nat.eq_of_beq_eq_true h2; exact ⟨by omega, _, rfl, rfl⟩
  | false => simp only [h2] at ho; cases ho
theorem yub (p e : Int) : ztj (KD Tryz.prog 150 .returning .returning) [.lp 1002 0, .lp 1003 0] (yad (zua p e)) (.tup []) (yad (zua p e)) := by
 refine conKD_recover (lf := lfT) tok Tryz.func150 rfl Tryz.ntmps150 Tryz.results150 rfl cat_cl rfl rfl rfl (by decide) rfl .idle ?_
 show Lex _ _ _ _ _ _ (S _ _)
 (repeat (first | refine zy ?_ | refine yac rfl rfl recovered_nil rfl rfl ?_))
 exact ⟨_, rfl, yob _, ybq (yal rfl (yal rfl yay))⟩
section
variable {g : FuncId} {caps : List AV} {hs hs' : List (Nat × Option LObj)}
structure CatMem (g : FuncId) (caps : List AV) (hs hs' : List (Nat × Option LObj)) : Prop where
 keys : ∀ i ∈ ydz (hs ++ hs'), 1000 ≤ i
 caps : ∀ i, i < 1000 → ment.mentL i caps = false
 fresh : ∀ i, i < 1000 → ycb i hs = true
 fresh2 : ∀ i, i < 1000 → ycb i hs' = true
 only : ∀ id o, yad hs' id = some o → yqq (ydz (hs ++ hs')) o = true
theorem zdx {p e : Int} (h : ∀ i ∈ ydz hs, 1000 ≤ i) : Ahead [(3, some (.cells [i64 e])), (2, some (.cells [i64 p]))] hs := by
 refine ⟨fun i hi hm => ?_, fun j ob hj i hi => ?_⟩
 ·have := h i hi
  simp [ydz] at hm
  omega
 ·have : ob = .cells [i64 e] ∨ ob = .cells [i64 p] := by
   simp only [yad] at hj
   split at hj
   ·cases hj; exact .inl rfl
   ·split at hj
    ·cases hj; exact .inr rfl
    ·cases hj
  rcases this with rfl | rfl <;> rfl
theorem zri {i : Nat} (h : i ∈ ycj [(1002, 2), (1003, 3)]) : i < 1000 := by simp [ycj] at h; omega
theorem catch_ok (hc : yva Tryz.prog g caps (yad hs) (.tup []) (yad hs')) (hm : CatMem g caps hs hs') : yva Tryz.prog 93 [.fn g caps] (yad hs) (.tup [i64 0, i64 0]) (yad hs') := by
 refine zjn tok Tryz.func93 rfl rfl Tryz.ntmps93 Tryz.results93 rfl (fun id o ho hi => ⟨?_, hc.2.1 id o ho hi⟩) ?_
 ·have := hm.keys id (by simp only [ydz, List.map_append, List.mem_append]; exact .inr (ygh (by rw [ho]; rfl)))
  omega
 show AF _ _ _ _ (S _ _)
 have f1 : ydk 2 (ygb 0 [AV.fn g caps]) = true := by
  show ydk 2 [(0, .fn g caps)] = true
  simp [ydk, ment, hm.caps 2 (by omega)]
 have f2 : ydk 3 ((2, .lp 2 0) :: ygb 0 [AV.fn g caps]) = true := by
  show ydk 3 [(2, .lp 2 0), (0, .fn g caps)] = true
  simp [ydk, ment, hm.caps 3 (by omega)]
 refine zix (zmw ?_)
 refine ydj (lf := lfT) rfl ?_
 refine zA (h1 := f1) (h2 := hm.fresh 2 (by omega)) ?_
 refine zA (h1 := f2) (h2 := zob rfl rfl (hm.fresh 3 (by omega))) ?_
 refine ydw ?_
 show AF _ _ _ _ (S _ _)
 refine zix ?_
 refine ync (lf := lfT) 1 rfl rfl rfl rfl rfl rfl (fun d h => by cases h) ?_
 refine zF ?_
 refine ydw ⟨rfl, _, _, _, ⟨_, Tryz.func150, rfl, rfl⟩, rfl, rfl, fun x hx => ?_, ?_⟩
 ·have : ∀ y, look ((4, .fn 150 [.lp 2 0, .lp 3 0]) :: (3, .lp 3 0) :: (2, .lp 2 0) :: ygb 0 [AV.fn g caps]) x ≠ some y := fun y hy => by
   simp only [look, ygb] at hy
   (repeat' split at hy)
   all_goals first | (rename_i hb; have := Nat.eq_of_beq_eq_true hb; omega) | cases hy
  cases hq : look ((4, .fn 150 [.lp 2 0, .lp 3 0]) :: (3, .lp 3 0) :: (2, .lp 2 0) :: ygb 0 [AV.fn g caps]) x with
  | none => exact hq
  | some y => exact absurd hq (this y)
 show Lex _ _ _ _ _ [] _
 refine .nil ?_
 show A _ _ _ _ _
 refine ytu (s' := S [(0, .fn g caps), (2, .lp 2 0), (3, .lp 3 0), (1000000, .lp 2 0), (1000001, .lp 3 0)] _) ?_ ⟨yyk ⟨rfl, rfl, rfl, rfl, rfl, trivial⟩, fun id x h => h⟩
 have hk0 := hm.keys
 have hbig : ∀ i, i < 1000 → ∀ j ∈ ydz (hs ++ hs'), Nat.beq i j = false := fun i hi j hj => ydm (by have := hk0 j hj; omega)
 refine ydl ?_
 refine ydj (lf := lfT) rfl ?_
 refine zC ?_
 refine L_callI (pre := [_, _]) (xs := []) (t' := [(2, .lp 2 0), (3, .lp 3 0), (1000000, .lp 2 0), (1000001, .lp 3 0)]) hc rfl rfl rfl (zdx hk0) hm.only (fun x y hy => ⟨yby (by exact zs) x y hy, fun i hi => ?_⟩) rfl rfl rfl ?_
 ·simp only [look] at hy
  (repeat' split at hy)
  all_goals first | (cases hy; exact hbig _ (by omega) i hi) | cases hy
 (try refine zy ?_)
 refine yaf ?_
 refine yzt (h' := hs') (args0 := [.lp 1002 0, .lp 1003 0]) [(1002, 2), (1003, 3)] rfl rfl rfl ⟨rfl, rfl, trivial⟩ (yub 0 0) rfl rfl rfl rfl (yal rfl (yal rfl yay)) rfl (fun j ob hj hob => ⟨fun i hi => (yei (hm.fresh2 i (zri hi))).2 j ob hob, ob, ?_, .inl rfl⟩) rfl (yob _) (fun id o ho => ?_)
 ·refine (yla (f := [(3, _), (2, _), (3, _), (2, _)]) ?_).trans hob
  simp [ydz, ycj] at hj ⊢
  omega
 ·refine (yla (f := yng _ _ _) ?_).trans ho
  have := hk0 id (by simp only [ydz, List.map_append, List.mem_append]; exact .inr (ygh (by rw [ho]; rfl)))
  simp [ydz, yng]
  omega
theorem catchm_ok (hc : yva Tryz.prog g caps (yad hs) (.tup []) (yad hs')) (hm : CatMem g caps hs hs') : yva Tryz.prog 93 [.fm g caps] (yad hs) (.tup [i64 0, i64 0]) (yad hs') := by
 refine zjn tok Tryz.func93 rfl rfl Tryz.ntmps93 Tryz.results93 rfl (fun id o ho hi => ⟨?_, hc.2.1 id o ho hi⟩) ?_
 ·have := hm.keys id (by simp only [ydz, List.map_append, List.mem_append]; exact .inr (ygh (by rw [ho]; rfl)))
  omega
 show AF _ _ _ _ (S _ _)
 have f1 : ydk 2 (ygb 0 [AV.fm g caps]) = true := by
  show ydk 2 [(0, .fm g caps)] = true
  simp [ydk, ment, hm.caps 2 (by omega)]
 have f2 : ydk 3 ((2, .lp 2 0) :: ygb 0 [AV.fm g caps]) = true := by
  show ydk 3 [(2, .lp 2 0), (0, .fm g caps)] = true
  simp [ydk, ment, hm.caps 3 (by omega)]
 refine zix (zmw ?_)
 refine ydj (lf := lfT) rfl ?_
 refine zA (h1 := f1) (h2 := hm.fresh 2 (by omega)) ?_
 refine zA (h1 := f2) (h2 := zob rfl rfl (hm.fresh 3 (by omega))) ?_
 refine ydw ?_
 show AF _ _ _ _ (S _ _)
 refine zix ?_
 refine ync (lf := lfT) 1 rfl rfl rfl rfl rfl rfl (fun d h => by cases h) ?_
 refine zF ?_
 refine ydw ⟨rfl, _, _, _, ⟨_, Tryz.func150, rfl, rfl⟩, rfl, rfl, fun x hx => ?_, ?_⟩
 ·have : ∀ y, look ((4, .fn 150 [.lp 2 0, .lp 3 0]) :: (3, .lp 3 0) :: (2, .lp 2 0) :: ygb 0 [AV.fm g caps]) x ≠ some y := fun y hy => by
   simp only [look, ygb] at hy
   (repeat' split at hy)
   all_goals first | (rename_i hb; have := Nat.eq_of_beq_eq_true hb; omega) | cases hy
  cases hq : look ((4, .fn 150 [.lp 2 0, .lp 3 0]) :: (3, .lp 3 0) :: (2, .lp 2 0) :: ygb 0 [AV.fm g caps]) x with
  | none => exact hq
  | some y => exact absurd hq (this y)
 show Lex _ _ _ _ _ [] _
 refine .nil ?_
 show A _ _ _ _ _
 refine ytu (s' := S [(0, .fm g caps), (2, .lp 2 0), (3, .lp 3 0), (1000000, .lp 2 0), (1000001, .lp 3 0)] _) ?_ ⟨yyk ⟨rfl, rfl, rfl, rfl, rfl, trivial⟩, fun id x h => h⟩
 have hk0 := hm.keys
 have hbig : ∀ i, i < 1000 → ∀ j ∈ ydz (hs ++ hs'), Nat.beq i j = false := fun i hi j hj => ydm (by have := hk0 j hj; omega)
 refine ydl ?_
 refine ydj (lf := lfT) rfl ?_
 refine zC ?_
 refine L_callIm (pre := [_, _]) (t' := [(2, .lp 2 0), (3, .lp 3 0), (1000000, .lp 2 0), (1000001, .lp 3 0)]) hc rfl rfl (zdx hk0) hm.only (fun x y hy => ⟨yby (by exact zs) x y hy, fun i hi => ?_⟩) rfl rfl rfl ?_
 ·simp only [look] at hy
  (repeat' split at hy)
  all_goals first | (cases hy; exact hbig _ (by omega) i hi) | cases hy
 (try refine zy ?_)
 refine yaf ?_
 refine yzt (h' := hs') (args0 := [.lp 1002 0, .lp 1003 0]) [(1002, 2), (1003, 3)] rfl rfl rfl ⟨rfl, rfl, trivial⟩ (yub 0 0) rfl rfl rfl rfl (yal rfl (yal rfl yay)) rfl (fun j ob hj hob => ⟨fun i hi => (yei (hm.fresh2 i (zri hi))).2 j ob hob, ob, ?_, .inl rfl⟩) rfl (yob _) (fun id o ho => ?_)
 ·refine (yla (f := [(3, _), (2, _), (3, _), (2, _)]) ?_).trans hob
  simp [ydz, ycj] at hj ⊢
  omega
 ·refine (yla (f := yng _ _ _) ?_).trans ho
  have := hk0 id (by simp only [ydz, List.map_append, List.mem_append]; exact .inr (ygh (by rw [ho]; rfl)))
  simp [ydz, yng]
  omega
end
end
section
open Go.RowKit
theorem zct {i : Nat} : ∀ (x : AV), ment i x = true → i ∈ zfi x
 | .v _, h => by simp [ment] at h
 | .any, h => by simp [ment] at h
 | .one, h => by simp [ment] at h
 | .sl _ _, h => by simp [ment] at h
 | .dp _ _, h => by simp [ment] at h
 | .mv _, h => by simp [ment] at h
 | .lp j o, h => by simp only [zfi, List.mem_singleton]; exact (Nat.eq_of_beq_eq_true h).symm
 | .ls j _ _, h => by simp only [zfi, List.mem_singleton]; exact (Nat.eq_of_beq_eq_true h).symm
 | .mp j, h => by simp only [zfi, List.mem_singleton]; exact (Nat.eq_of_beq_eq_true h).symm
 | .agg cs, h => by simpa [zfi] using rows cs (by simpa [ment] using h)
 | .tup cs, h => by simpa [zfi] using rows cs (by simpa [ment] using h)
 | .fn _ cs, h => by simpa [zfi] using rows cs (by simpa [ment] using h)
 | .fm _ cs, h => by simpa [zfi] using rows cs (by simpa [ment] using h)
 where rows : ∀ (cs : List AV), ment.mentL i cs = true → i ∈ zfi.idsL cs
 | [], h => by simp [ment.mentL] at h
 | c :: cs, h => by
  simp only [ment.mentL, Bool.or_eq_true] at h
  simp only [zfi.idsL, List.mem_append]
  exact h.imp (zct c) (rows cs)
def zvk (l : List Nat) : Bool := l.all fun i => Nat.ble 1000 i
def zso : HL → Bool
 | [] => true
 | (i, o) :: l => Nat.ble 1000 i && ((match o with
  | some o => zvk (zvc o)
  | none => true) && zso l)
theorem zji {l : List Nat} {i : Nat} (h : zvk l = true) (hi : i < 1000) : i ∉ l := fun hm => by
 have := List.all_eq_true.1 h i hm
 simp only [Nat.ble_eq] at this
 omega
theorem mentO_ids {i : Nat} {o : LObj} (h : yfv i o = true) : i ∈ zvc o := by
 cases o <;> simp only [yfv, zvc] at h ⊢ <;> first | exact zct.rows _ h | cases h
theorem ysn {i : Nat} (hi : i < 1000) : ∀ {l : HL}, zso l = true → ycb i l = true
 | [], _ => rfl
 | (k, o) :: l, h => by
  simp only [zso, Bool.and_eq_true, Nat.ble_eq] at h
  have ih := ysn hi h.2.2
  have hk : Nat.beq i k = false := ydm (by omega)
  simp only [ycb, hk]
  cases o with
  | none => exact ih
  | some o =>
   cases hm : yfv i o with
   | true => exact absurd (mentO_ids hm) (zji h.2.1 hi)
   | false => simp only [hm]; exact ih
def zkw (ks : List Nat) : HL → Bool
 | [] => true
 | (_, o) :: l => (match o with
  | some o => yqq ks o
  | none => true) && zkw ks l
theorem zgd {ks : List Nat} : ∀ {l : HL}, zkw ks l = true → ∀ id o, yad l id = some o → yqq ks o = true
 | [], _, id, o, h => by simp [yad] at h
 | (k, x) :: l, hb, id, o, h => by
  simp only [zkw, Bool.and_eq_true] at hb
  simp only [yad] at h
  cases he : Nat.beq id k with
  | true => rw [he] at h; simp only at h; subst h; exact hb.1
  | false => rw [he] at h; exact zgd hb.2 id o h
def zux (caps : List AV) (hs hs' : HL) : Bool := zso hs && (zso hs' && (zvk (zfi.idsL caps) && zkw (ydz (hs ++ hs')) hs'))
theorem znn {g : FuncId} {caps : List AV} {hs hs' : HL} (h : zux caps hs hs' = true) : CatMem g caps hs hs' := by
 simp only [zux, Bool.and_eq_true] at h
 obtain ⟨h1, h2, h3, h4⟩ := h
 have key : ∀ {l : HL}, zso l = true → ∀ i ∈ ydz l, 1000 ≤ i := by
  intro l
  induction l with
  | nil => intro _ i hi; simp [ydz] at hi
  | cons a l ih =>
   obtain ⟨k, o⟩ := a
   intro hb i hi
   simp only [zso, Bool.and_eq_true, Nat.ble_eq] at hb
   simp only [ydz, List.map_cons, List.mem_cons] at hi
   rcases hi with rfl | hi
   ·exact hb.1
   ·exact ih hb.2.2 i hi
 refine ⟨fun i hi => ?_, fun i hi => ?_, fun i hi => ysn hi h1, fun i hi => ysn hi h2, zgd h4⟩
 ·rw [ydz, List.map_append, List.mem_append] at hi
  exact hi.elim (key h1 i) (key h2 i)
 ·cases hm : ment.mentL i caps with
  | false => rfl
  | true => exact absurd (zct.rows _ hm) (zji h3 hi)
def klC (K : Calls0) (f : FuncId) (xs : List AV) (hs : HL) : Option (AV × HL) :=
 match Nat.beq f 93 with
 | true => match xs with
  | [.fn g caps] => match K.lent g caps hs with
   | some (.tup [], hs') => match zux caps hs hs' with
    | true => some (.tup [i64 0, i64 0], hs')
    | false => none
   | _ => none
  | [.fm g caps] => match K.lent g caps hs with
   | some (.tup [], hs') => match zux caps hs hs' with
    | true => some (.tup [i64 0, i64 0], hs')
    | false => none
   | _ => none
  | _ => none
 | false => none
theorem klC_ok (K : Calls0) (hK : CallsOk Tryz.prog K) (f : FuncId) (xs : List AV) (hs : HL) (r : AV) (hs' : HL) (h : klC K f xs hs = some (r, hs')) : yva Tryz.prog f xs (yad hs) r (yad hs') := by
 unfold klC at h
 split at h
 ·rename_i hf
  rw [Nat.eq_of_beq_eq_true hf]
  split at h
  ·split at h
   ·rename_i q hc
    split at h
    ·rename_i hb
     simp only [Option.some.injEq, Prod.mk.injEq] at h
     obtain ⟨rfl, rfl⟩ := h
     exact catch_ok (hK.lent _ _ _ _ _ hc) (znn hb)
    ·cases h
   ·cases h
  ·split at h
   ·rename_i q hc
    split at h
    ·rename_i hb
     simp only [Option.some.injEq, Prod.mk.injEq] at h
     obtain ⟨rfl, rfl⟩ := h
     exact catchm_ok (hK.lent _ _ _ _ _ hc) (znn hb)
    ·cases h
   ·cases h
  ·cases h
 ·cases h
end
section
open Go.RowKit
theorem getN' {α : Type} {l : List α} {k : Nat} (h : k < l.length) : ∃ x, l[k]? = some x := ⟨_, List.getElem?_eq_getElem h⟩
theorem A_matVec {P : Program} {N : Nat} {c : Code} {Q : Exit → SS → Prop} {t : List (Nat × AV)} {h : List (Nat × Option LObj)} (id : Nat) {xs : List AV} (hx : yad h id = some (.mcells xs)) (hp : ∀ y ∈ xs, ybf y = true) (k : A P N c Q (S t ((id, some (.vec xs)) :: h))) : A P N c Q (S t h) := by
 intro B ok0 lv a w hs
 refine k B ok0 lv a w ⟨⟨hs.inv.base, hs.inv.ok0lt, fun j hj => ?_, hs.inv.inj, fun j x hj => ?_⟩, hs.size, hs.frame, hs.defers, hs.big, fun j b ws hN hj hc hb => ?_⟩
 ·refine hs.inv.dom j ?_
  simp only [S, yad] at hj ⊢
  split at hj
  ·cases hj
  ·exact hj
 ·simp only [S, yad] at hj
  split at hj
  ·rename_i hb
   cases hj
   have e := Nat.eq_of_beq_eq_true hb
   subst e
   obtain ⟨b, n, h1, h2⟩ := hs.inv.obj j _ hx
   refine ⟨b, n, h1, ?_⟩
   cases b with
   | none => simp [yha] at h2
   | some b => exact ⟨h2.1, h2.2.1, h2.2.2, hp⟩
  ·exact hs.inv.obj j x hj
 ·simp only [S, yad] at hj
  split at hj
  ·cases hj; cases hc
  ·exact hs.pin j b ws hN hj hc hb
theorem leaf_own (op a : Int) : yva Tryz.prog 283 [i64 op, i64 a] (yad []) (.ls 1002 2 1) (yad [(1002, some (.vec [i64 op, i64 a]))]) := by
 refine zbw tok Tryz.func283 rfl rfl Tryz.ntmps283 Tryz.results283 rfl (fun id o ho hc => ?_) ?_
 ·simp only [yad] at ho
  cases h1 : Nat.beq id 1002 with
  | true => simp only [h1, Option.some.injEq] at ho; subst ho; cases hc
  | false => simp only [h1] at ho; cases ho
 show A _ _ _ _ (S _ _)
 refine zt ?_; refine ydj (lf := lfT) rfl ?_
 (try refine zo ?_)
 refine zt ?_; refine ydj (lf := lfT) rfl ?_
 (repeat (first | refine zC ?_ | refine zU ?_))
 refine L_buildM tok 1002 rfl rfl rfl rfl rfl rfl ⟨rfl, fun x y h => ?_, fun j ob h => by cases h⟩ rfl rfl rfl rfl ?_
 ·exact (yma (id := 1002) rfl) x y h
 (try refine zo ?_)
 refine zt ?_
 refine A_matVec 1002 rfl (by intro y hy; simp [yln, yms] at hy; rcases hy with rfl | rfl <;> rfl) ?_
 refine yaf ?_
 exact ⟨_, rfl, yob _, ybq (yal rfl yay)⟩
theorem terms_flat (l : List Tm) : (l.map yjb).flatten.length = l.length * 2 := by
 induction l with
 | nil => rfl
 | cons t l ih => simp only [List.map_cons, List.flatten_cons, List.length_append, ih, List.length_cons, yjb, List.length_nil]; omega
theorem zbi (l : List Tm) : ∀ c ∈ (l.map yjb).flatten, ybf c = true := by
 intro c hc
 simp only [List.mem_flatten, List.mem_map] at hc
 obtain ⟨r, ⟨t, _, rfl⟩, hc⟩ := hc
 simp only [yjb, List.mem_cons, List.not_mem_nil, or_false] at hc
 rcases hc with rfl | rfl <;> rfl
def zbx (es : List (List Tm)) : AV := .sl 1 (es.map fun e => [ydp e])
theorem operation_con (op : Int) (es : List (List Tm)) (hl : es.length ≤ 10) (h1 : es.flatten.length ≤ 1000000) : Con Tryz.prog 254 [i64 op, zbx es] (ydp ((op, 0) :: es.flatten)) := by
 refine yan Tryz.func254 rfl rfl Tryz.ntmps254 Tryz.results254 rfl rfl ?_
 refine zt ?_; refine ydj (lf := lfT) rfl ?_
 (try refine zo ?_)
 refine zt ?_; refine ydj (lf := lfT) rfl ?_
 (try refine zo ?_)
 refine znd [(1002, 9)] (leaf_own op 0) rfl rfl rfl rfl rfl rfl rfl (yay) rfl rfl rfl rfl rfl rfl ?_
 (try refine zo ?_)
 (try refine zy ?_)
 refine ycy (α := Nat) (fun k => [(5, .ls 9 2 (1 + (es.take k).flatten.length)), (12, i64 (k : Int)), (11, i64 (es.length : Int)), (10, zbx es)]) (fun k => [(9, some (.vec ((((op, 0) :: (es.take k).flatten).map yjb).flatten)))]) (fun k => es.length - k) (fun k => k ≤ es.length) 0 (by omega) (by exact zs) (yal rfl yay) ?_
 intro k hk
 (try refine zy ?_)
 refine yag rfl (fun h2 => ?_) (fun h2 => ?_)
 ·have h2 : k < es.length := by simpa using h2
  obtain ⟨e, he⟩ := getN' h2
  have hfl : (es.take (k + 1)).flatten = (es.take k).flatten ++ e := by
   rw [List.take_add_one, he]; simp
  have hle : (es.take (k + 1)).flatten.length ≤ es.flatten.length := by
   conv => rhs; rw [← List.take_append_drop (k + 1) es, List.flatten_append, List.length_append]
   omega
  rw [hfl, List.length_append] at hle
  (try refine zy ?_)
  refine L_appendV tok (id := 9) (t' := [(12, i64 (k : Int)), (11, i64 (es.length : Int)), (10, zbx es)]) rfl rfl (by rw [terms_flat]; simp; omega) rfl (zbi e) (by rw [List.length_map]; constructor <;> omega) (by (repeat (first | exact subTM_nil | refine subTM_cons rfl rfl ?_))) rfl rfl rfl rfl ?_
  (try refine zy ?_)
  have e1 : 1 + (es.take k).flatten.length + (e.map yjb).length = 1 + (es.take (k + 1)).flatten.length := by rw [hfl, List.length_append, List.length_map]; omega
  have e2 : (((op, 0) :: (es.take k).flatten).map yjb).flatten ++ (e.map yjb).flatten = (((op, 0) :: (es.take (k + 1)).flatten).map yjb).flatten := by rw [hfl]; simp
  rw [e1, e2]
  exact rnd (k + 1) (by omega) (by omega) (by exact zs) (yal rfl yay)
 ·have h2 : es.length ≤ k := by simpa using h2
  rw [List.take_of_length_le h2]
  (try refine zy ?_)
  refine yaf ?_; refine ⟨_, rfl, ?_⟩
  refine Frz.ls rfl (by rw [List.length_map, List.length_cons]; omega) (fun row hr => by obtain ⟨t, _, rfl⟩ := List.mem_map.1 hr; rfl) rfl fun x hx i => ybf.ment (zbi ((op, 0) :: es.flatten) x hx)
end
section
open Go.RowKit
def zus : List (List AV) → Option (List Tm)
 | [] => some []
 | [.v (.int .i64 a), .v (.int .i64 b)] :: l => match zus l with
  | some r => some ((a, b) :: r)
  | none => none
 | _ => none
theorem zqa : ∀ {l : List (List AV)} {r : List Tm}, zus l = some r → l = r.map yjb
 | [], r, h => by simp only [zus, Option.some.injEq] at h; subst h; rfl
 | x :: l, r, h => by
  unfold zus at h
  split at h
  ·rename_i e; cases e
  ·rename_i a b l' e
   cases e
   split at h
   ·rename_i r' hr
    simp only [Option.some.injEq] at h
    subst h
    rw [zqa hr]; rfl
   ·cases h
  ·cases h
def zud : List (List AV) → Option (List (List Tm))
 | [] => some []
 | [.sl 2 rows] :: l => match zus rows, zud l with
  | some e, some r => some (e :: r)
  | _, _ => none
 | _ => none
theorem znw : ∀ {l : List (List AV)} {r : List (List Tm)}, zud l = some r → l = r.map fun e => [ydp e]
 | [], r, h => by simp only [zud, Option.some.injEq] at h; subst h; rfl
 | x :: l, r, h => by
  unfold zud at h
  split at h
  ·rename_i e; cases e
  ·rename_i rows l' e
   cases e
   split at h
   ·rename_i e r' h1 h2
    simp only [Option.some.injEq] at h
    subst h
    rw [znw h2, zqa h1]; rfl
   ·cases h
  ·cases h
def knO (f : FuncId) (xs : List AV) : Option AV :=
 match Nat.beq f 254 with
 | true => match xs with
  | [.v (.int .i64 op), .sl 1 rows] => match zud rows with
   | some es => match Nat.ble es.length 10 && Nat.ble es.flatten.length 1000000 with
    | true => some (ydp ((op, 0) :: es.flatten))
    | false => none
   | none => none
  | _ => none
 | false => knI f xs
theorem knO_ok (f : FuncId) (xs : List AV) (r : AV) (h : knO f xs = some r) : Con Tryz.prog f xs r := by
 unfold knO at h
 split at h
 ·rename_i hf
  split at h
  ·rename_i op rows
   split at h
   ·rename_i es he
    split at h
    ·rename_i hb
     simp only [Bool.and_eq_true, Nat.ble_eq] at hb
     simp only [Option.some.injEq] at h
     subst h
     rw [Nat.eq_of_beq_eq_true hf, znw he]
     exact operation_con op es hb.1 hb.2
    ·cases h
   ·cases h
  ·cases h
 ·exact knI_ok _ _ _ h
end
section
open Go.RowKit
def colT : Bs := [112, 114, 111, 103, 114, 97, 109, 32, 99, 111, 108, 111, 117, 114, 115, 59, 32, 118, 97, 114, 32, 99, 32, 58, 32, 48, 32, 46, 46, 32, 110, 59, 32, 114, 117, 108, 101, 32, 102, 105, 120, 58, 32, 115, 111, 109, 101, 40, 113, 46, 99, 32, 61, 61, 32, 99, 41, 32, 45, 62, 32, 99, 32, 58, 61, 32, 109, 101, 120, 40, 113, 46, 99, 41, 59]
def zhu : ProgD := { name := ba [99, 111, 108, 111, 117, 114, 115], vars := [{ name := ba [99], kind := 1, lo := 0, hi := 0, perNode := 1, perID := 0 }], rules := [{ name := ba [102, 105, 120], guard := [(21, 0), (35, 0), (12, 0), (5, 0)], sets := [{ var := 0, val := [(27, 0), (12, 0)] }] }] }
theorem col_check : ycx zhu = 0 := by kernel_rfl
theorem zek : yee zhu = true := by kernel_rfl
theorem zrj : ygx zhu := by
 refine ⟨by (try unfold ysh); decide, fun x hx => ?_, fun r hr => ?_⟩
 ·simp only [zhu, List.mem_cons, List.not_mem_nil, or_false] at hx
  subst hx
  exact ⟨by (try unfold ysh); decide, by (try unfold ysh); decide, by (try unfold ysh); decide, by (try unfold ysh); decide, by (try unfold ysh); decide, by (try unfold ysh); decide⟩
 ·simp only [zhu, List.mem_cons, List.not_mem_nil, or_false] at hr
  subst hr
  refine ⟨by (try unfold ysh); decide, fun t ht => ?_, fun s hs => ?_⟩
  ·simp only [List.mem_cons, List.not_mem_nil, or_false] at ht
   rcases ht with rfl | rfl | rfl | rfl <;> exact ⟨by (try unfold ysh); decide, by (try unfold ysh); decide⟩
  ·simp only [List.mem_cons, List.not_mem_nil, or_false] at hs
   subst hs
   refine ⟨by (try unfold ysh); decide, fun t ht => ?_⟩
   simp only [List.mem_cons, List.not_mem_nil, or_false] at ht
   rcases ht with rfl | rfl <;> exact ⟨by (try unfold ysh); decide, by (try unfold ysh); decide⟩
theorem colcheck_con : Con Tryz.prog 95 [ypd zhu] (i64 0) := by
 have := ydn (P := Tryz.prog) (f := 95) (args := [ypd zhu]) (x := .int .i64 (ycx zhu)) ⟨_, Tryz.func95, rfl, rfl⟩ fun w us ok hok hr => by
  obtain ⟨u, rfl, h1⟩ := ytj hr
  exact zej u zhu w (yme h1 hok) zrj (yvn zek)
 rwa [col_check] at this
def zuf (f : FuncId) : Bool := Nat.beq f 95
def knC (f : FuncId) (xs : List AV) : Option AV :=
 match zuf f with
 | true => match eqA.eqL xs [ypd zhu] with
  | true => some (i64 0)
  | false => none
 | false => knO f xs
theorem knC_ok (f : FuncId) (xs : List AV) (r : AV) (h : knC f xs = some r) : Con Tryz.prog f xs r := by
 unfold knC at h
 split at h
 ·rename_i hf
  split at h
  ·rename_i he
   simp only [Option.some.injEq] at h
   subst h
   rw [Nat.eq_of_beq_eq_true hf, zer.row _ _ he]
   exact colcheck_con
  ·cases h
 ·exact knO_ok _ _ _ h
theorem colparse_con : Con Tryz.prog 41 [zdc (ba colT)] (.tup [ypd zhu, i64 0, i64 0]) :=
 con_run zcu tok knC_ok klC_ok (F := 1000) (fz := zuf) 40 (by kernel_rfl)
end
set_option maxHeartbeats 16000000
section
open Go.RowKit
theorem two_fair : Fair zhu (zmj 2) := ⟨zrj, yvn zek, by kernel_rfl⟩
theorem two_ok : CfgOk zhu (zmj 2) [[0], [0]] := ⟨two_fair, by kernel_rfl⟩
theorem two_run : zoa zhu (zmj 2) 1 [[0], [0]] [3#32, 3#32] = some ⟨[[1], [0]], 0#32, ⟨1, 1, 1, 1, 0#32⟩, [1#32], [3#32, 0#32]⟩ := by kernel_rfl
theorem tawake_con : Con Tryz.prog 11 [] (ycp true) := by
 have hf := rFollow_con two_ok (dmn_plain zhu (zmj 2) 1 (.inl rfl)) [3#32, 3#32] (by simp)
 rw [two_run] at hf
 refine yan Tryz.func11 rfl rfl Tryz.ntmps11 Tryz.results11 rfl rfl ?_
 (repeat (first | refine zy ?_ | refine yac rfl rfl colparse_con rfl rfl ?_ | refine yac rfl rfl (path_con 2 (by omega)) rfl rfl ?_ | refine yac rfl rfl hf rfl rfl ?_))
 refine yki tok rfl rfl rfl (by omega) (rfl) rfl rfl ?_
 (try refine zy ?_)
 refine yki tok rfl rfl rfl (by omega) (rfl) rfl rfl ?_
 (try refine zy ?_)
 refine yki tok rfl rfl rfl (by omega) (rfl) rfl rfl ?_
 (try refine zy ?_)
 refine yaf ?_; refine ⟨_, rfl, ?_⟩
 exact Frz.pure
end
section
open Go.ChangeShapes Go.WideShapes Go.RowKit
def ztw (w : World) (v : Value) (l : List Lk) : Prop := Row w v 2 l.length (l.flatMap fun t => [.int .i64 t.1, .int .i64 t.2])
def zhn (w : World) (cs : List Value) (l : List Lk) : Prop := ∃ v, cs = [v] ∧ ztw w v l
def znf (w : World) (v : Value) (ports : List (List Lk)) : Prop := Seq (zhn w) 1 w v ports
def zhl (w : World) (v : Value) (g : GraphD) : Prop := ∃ iv pv, v = .agg #[iv, pv] ∧ yna .i64 w iv g.ids ∧ znf w pv g.ports
def yzg (t : Lk) : Prop := ysh t.1 ∧ ysh t.2
def zna (g : GraphD) : Prop := (∀ x ∈ g.ids, ysh x) ∧ ∀ l ∈ g.ports, ∀ t ∈ l, yzg t
theorem zfc : Tryz.prog.cellsOf 3 = 1 := by kernel_rfl
theorem zeg : Tryz.prog.cellsOf 105 = 2 := by kernel_rfl
theorem zef : Tryz.prog.cellsOf 26 = 1 := by kernel_rfl
theorem cellsLinks : Tryz.prog.cellsOf 103 = 1 := by kernel_rfl
theorem cellsPorts : Tryz.prog.cellsOf 27 = 1 := by kernel_rfl
theorem cellsGraph : Tryz.prog.cellsOf 29 = 2 := by kernel_rfl
section
variable {H : Type} {enc : TypeId × Value → H} {w : World} {cs : List Value} {v : Value} {base : Nat} {d : DataW H} {ps : List MemPlace}
theorem rd_link (h : Rd enc Tryz.prog w 105 cs) : ∃ t : Lk, cs = [.int .i64 t.1, .int .i64 t.2] ∧ yzg t := by
 obtain ⟨h1, h2⟩ := yjk Tryz.underlying105 h
 rw [zeg] at h1
 match cs, h1 with
 | [a, b], _ =>
  have g0 := h2 0 _ rfl
  have g1 := h2 1 _ rfl
  simp [zfc] at g0 g1
  obtain ⟨x, hx, hx'⟩ := ygs Tryz.underlying3 g0
  obtain ⟨y, hy, hy'⟩ := ygs Tryz.underlying3 g1
  simp at hx hy
  exact ⟨(x, y), by simp [hx, hy], hx', hy'⟩
theorem rd_links (h : Rd enc Tryz.prog w 103 cs) : ∃ l, zhn w cs l ∧ ∀ t ∈ l, yzg t := by
 obtain ⟨v, l, h1, h2⟩ := yka (R := fun cs (t : Lk) => cs = [.int .i64 t.1, .int .i64 t.2] ∧ yzg t) Tryz.underlying103 zeg (Nat.succ_pos 1) (fun cs h => rd_link h) h
 refine ⟨l, ⟨v, h1, ysc (fun t : Lk => [.int .i64 t.1, .int .i64 t.2]) (fun _ => rfl) (by omega) h2 (fun cs x h => h.1)⟩, fun x hx => ?_⟩
 obtain ⟨xs, _, h3⟩ := h2
 obtain ⟨i, hi⟩ := List.getElem?_of_mem hx
 exact (h3 i x hi).2
theorem zpi (h : Rd enc Tryz.prog w 26 cs) : ∃ v l, cs = [v] ∧ yna .i64 w v l ∧ ∀ x ∈ l, ysh x := by
 obtain ⟨v, l, h1, hl⟩ := yka (R := fun cs x => cs = [.int .i64 x] ∧ ysh x) Tryz.underlying26 zfc Nat.one_pos (fun cs h => by obtain ⟨n, h1, h2⟩ := ygs Tryz.underlying3 h; exact ⟨n, h1, h2⟩) h
 refine ⟨v, l, h1, ?_, fun x hx => ?_⟩
 ·have := ysc (fun x => [.int .i64 x]) (fun _ => rfl) Nat.one_pos hl (fun cs x h => h.1)
  unfold yna
  rwa [zjy l] at this
 ·obtain ⟨xs, _, h2⟩ := hl
  obtain ⟨i, hi⟩ := List.getElem?_of_mem hx
  exact (h2 i x hi).2
theorem rd_ports (h : Rd enc Tryz.prog w 27 cs) : ∃ v l, cs = [v] ∧ znf w v l ∧ ∀ x ∈ l, ∀ t ∈ x, yzg t := by
 obtain ⟨v, l, h1, h2⟩ := yka (R := fun cs l => zhn w cs l ∧ ∀ t ∈ l, yzg t) Tryz.underlying27 cellsLinks Nat.one_pos (fun cs h => rd_links h) h
 refine ⟨v, l, h1, h2.imp fun _ _ _ h => h.1, fun x hx => ?_⟩
 obtain ⟨xs, _, h3⟩ := h2
 obtain ⟨i, hi⟩ := List.getElem?_of_mem hx
 exact (h3 i x hi).2
theorem open_graph (hv : Value.okWide Tryz.prog w .any base 29 v) (h : DataW.Trod enc Tryz.prog w 0 (fun _ => true) true 29 v d ps) : ∃ g, zhl w v g ∧ zna g := by
 obtain ⟨cs, rfl, hcs⟩ : ∃ cs, v = .agg cs ∧ cs.size = Tryz.prog.cellsOf 29 := by
  unfold Value.okWide at hv
  rw [Tryz.underlying29] at hv
  obtain ⟨cs, h1, h2, _⟩ := hv
  exact ⟨cs, h1, h2⟩
 have hr := ztc h
 simp only [Value.cells] at hr
 obtain ⟨h1, h2⟩ := yjk Tryz.underlying29 hr
 rw [cellsGraph] at h1
 obtain ⟨cs⟩ := cs
 simp only at h1 h2
 match cs, h1 with
 | [a, b], _ =>
  have g0 := h2 0 _ rfl
  have g1 := h2 1 _ rfl
  simp [zef, cellsPorts] at g0 g1
  obtain ⟨iv, l, e2, q2, q3⟩ := zpi g0
  obtain ⟨pv, rr, e3, q4, q5⟩ := rd_ports g1
  simp at e2 e3
  exact ⟨⟨l, rr⟩, ⟨iv, pv, by simp [e2, e3], q2, q4⟩, q3, q5⟩
end
end
section
open Go.RowKit
theorem links_rel {w : World} {lv : Live} {v : Value} {l : List Lk} (h : ztw w v l) : Rel (okW w) w lv (yhn l) v :=
 yrz (g := fun t : Lk => [.int .i64 t.1, .int .i64 t.2]) (fun _ => rfl) (fun x u hu => by simp at hu; rcases hu with rfl | rfl <;> rfl) h
theorem graph_rel {w : World} {lv : Live} {v : Value} {g : GraphD} (h : zhl w v g) : Rel (okW w) w lv (yin g) v := by
 obtain ⟨iv, pv, rfl, h1, h2⟩ := h
 have h3 : yca (okW w) w lv [yaq g.ids, ybd g.ports] [iv, pv] := by
  refine ybv (zkf h1) (ybv ?_ yhj)
  refine yll h2 (fun _ => rfl) (fun x c hc => by simp at hc; subst hc; rfl) fun x _ cs hc => ?_
  obtain ⟨lv', rfl, r1⟩ := hc
  exact ybv (links_rel r1) yhj
 exact .agg _ h3.1 (fun c hc => by simp at hc; rcases hc with rfl | rfl <;> rfl) h3.2
end
section
open Go.ChangeShapes Go.WideShapes Go.RowKit
def zty (w : World) (cs : List Value) (l : List Int) : Prop := ∃ u, cs = [u] ∧ yna .i64 w u l
def zqk (w : World) (v : Value) (c : List (List Int)) : Prop := Seq (zty w) 1 w v c
theorem zno {w : World} {lv : Live} {v : Value} {c : List (List Int)} (h : zqk w v c) : Rel (okW w) w lv (yfh c) v := by
 refine yll h (fun _ => rfl) (fun x c hc => by simp at hc; subst hc; rfl) fun x _ cs hc => ?_
 obtain ⟨u, rfl, r1⟩ := hc
 exact ybv (zkf r1) yhj
section
variable {H : Type} {enc : TypeId × Value → H} {w : World} {cs : List Value} {v : Value} {base : Nat} {d : DataW H} {ps : List MemPlace}
theorem yxs (hv : Value.okWide Tryz.prog w .any base 30 v) (h : DataW.Trod enc Tryz.prog w 0 (fun _ => true) true 30 v d ps) : ∃ c, zqk w v c := by
 obtain ⟨l, hl⟩ := open_seq_arg (R := zty w) Tryz.underlying30 zef Nat.one_pos (fun cs h => by obtain ⟨u, l, h1, h2, _⟩ := zpi h; exact ⟨l, u, h1, h2⟩) hv h
 exact ⟨l, hl⟩
end
end
section
open Go.RowKit
theorem wfI_u8 {n : Int} (h : (Lit.int .u8 n).wf = true) : 0 ≤ n ∧ n ≤ 255 := by
 simp only [Lit.wf, Bool.and_eq_true, decide_eq_true_eq] at h
 have e1 : IntKind.u8.min = 0 := by decide
 have e2 : IntKind.u8.max = 255 := by decide
 omega
theorem ydr (v0 : Value) (z0 : ProgD) (v1 : Value) (z1 : GraphD) (v2 : Value) (z2 : List (List Int)) (v3 : Value) (z3 : List (List Int)) (a4 : Int) (w : World) (h0 : ygy w v0 z0 ∧ ygx z0) (h1 : zhl w v1 z1 ∧ zna z1) (h2 : zqk w v2 z2) (h3 : zqk w v3 z3) (h4 : (Lit.int .u8 a4).wf = true) (hG : ziz w) :
  Calls Tryz.prog 4 #[v0, v1, v2, v3, .int .u8 a4] w fun e w' => e = .returned (.bool true) ∧ Below w.heap.size w w' :=
 calls_of_con (travel_con tawake_con z0 z1 z2 z3 a4 (wfI_u8 h4) h0.2) hG (okW_lt w) (ybv (prog_rel h0.1) (ybv (graph_rel h1.1) (ybv (zno h2) (ybv (zno h3) (ybv (.v _) yhj)))))
end
section
open Go.RowKit
def lits1 (l : List (DataW Unit)) : List Value := l.flatMap fun | .lit (.int k z) => [.int k z] | _ => []
def lits2 : DataW Unit → List Value
 | .agg l => l.flatMap fun | .lit (.int k z) => [.int k z] | .agg m => lits1 m | _ => []
 | _ => []
def layIn (vs : List Value) : Obj → Obj
 | .cells _ t frozen => .cells vs.toArray t frozen
 | o => o
noncomputable def yxc (os : Os) : World :=
 { World.holding Tryz.prog os ⟨#[], #[], []⟩ with heap := (World.holding Tryz.prog os ⟨#[], #[], []⟩).heap.modify 0 (layIn (lits2 Rows.laid_math_bits_deBruijn32tab)) }
theorem glob_of {laid : List (String × DataW Unit)} {W : World} (hl : (laid.filter fun x => x.1 == "math/bits.deBruijn32tab") = [("math/bits.deBruijn32tab", Rows.laid_math_bits_deBruijn32tab)]) (hs : W.ShapedOpen Tryz.prog) (h : laidMetH Tryz.prog laid W) : ziz W := by
 have h2 := laidMetH.filter (fun x => x.1 == "math/bits.deBruijn32tab") h
 rw [hl] at h2
 have h3 : laidMet Tryz.prog [("math/bits.deBruijn32tab", Lib.tabData .u8 zur)] W := h2
 exact Lib.tabIs_of_head (t := 319) (e := 5) (n := 32) zof (by kernel_rfl) Tryz.underlying319 Tryz.underlying5 (by kernel_rfl) (by kernel_rfl) h3
end
end Go.Proofs.YtgpbgfpjlhoicaaGreatDoor
