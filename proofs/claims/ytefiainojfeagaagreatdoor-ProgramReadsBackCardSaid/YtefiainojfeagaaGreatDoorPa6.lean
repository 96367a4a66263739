/- Part 6 of the texts under ProgramFormats,ProgramReadsBack,ProgramTellsProgramsApart,ProgramGrowsByLines,ProgramIgnoresBlanks: joined, with what it needs alone. -/
import Derived.RecoverIn
import Derived.WideLaws
import Derived.Below
import Derived.Lib.Split
import Derived.Lib.SplitLaws
import GoSem.Core.Utf8
import Derived.Lib.ItoaNum
import Derived.Test.YtefiainojfeagaaGreatDoorPa5
set_option linter.unusedVariables false
set_option maxHeartbeats 4000000
namespace Go.Proofs.YtefiainojfeagaaGreatDoor
section
open Go.RowKit
abbrev Runs := Array Value → World → (Ending → World → Prop) → Prop
def ztq (K : Runs) (args : List AV) (hs : Nat → Option LObj) (r : AV) (hs' : Nat → Option LObj) : Prop :=
 (∀ id o, hs' id = some o → isC o = true → ∃ o', hs id = some o' ∧ isC o' = true) ∧ ∀ (ok0 : Nat → Prop) (lv : Live) (w : World) (us : List Value), Inv (yga w lv) ok0 hs lv w → yck (ybt (yga w lv) ok0 lv w) w lv args us →
  K us.toArray w fun e w' => ∃ u lv', e = .returned u ∧ Rel (ybt (yga w lv) ok0 lv' w') w' lv' r u ∧ Inv (yga w lv) ok0 hs' lv' w' ∧ ∀ id o, hs' id = some o → isC o = true → ∃ b n n', lv id = some (some b, n) ∧ lv' id = some (some b, n')
def KD (P : Program) (f : FuncId) (u u' : FrameMode) : Runs := fun us w R => CallsDIn Fence.wide 0 P f us u w fun e u2 w' => u2 = u' ∧ R e w'
theorem KD.mono {P : Program} {f : FuncId} {u u' : FrameMode} {us : Array Value} {w : World} {R R' : Ending → World → Prop} (h : ∀ e w', R e w' → R' e w') (hk : KD P f u u' us w R) : KD P f u u' us w R' :=
 CallsDIn.mono hk fun e u2 w' ⟨h1, h2⟩ => ⟨h1, h _ _ h2⟩
section
variable {P : Program} {N : Nat}
theorem lendK {K : Runs} (hK : ∀ (us : Array Value) (w : World) (R R' : Ending → World → Prop), (∀ e w', R e w' → R' e w') → K us w R → K us w R') {args0 : List AV} {hm hm' : Nat → Option LObj} {r : AV} {σ : Nat → Nat} {ids : List Nat} {s s2 : SS} {B : Bse} {ok0 : Nat → Prop} {lv : Live} {a : Act} {w : World} {vs : List Value}
  (hs : Sim B ok0 N s lv a w) (hvs : yck (ybt B ok0 lv w) w lv (args0.map (ygc σ)) vs) (hc : ztq K args0 hm r hm')
  (hinj : ∀ i ∈ ids, ∀ j ∈ ids, σ i = σ j → i = j) (hdom : ∀ id, (hm id).isSome → id ∈ ids) (hdom' : ∀ id, (hm' id).isSome → id ∈ ids) (hmem : ∀ id o, hm id = some o → s.h (σ id) = some (yzf σ o)) (hro : ∀ id o, hm' id = some o → ywf ids o = true)
  (ht : ∀ x y, s2.t x = some y → (y = .any ∧ ∃ z, s.t x = some z) ∨ (s.t x = some y ∧ zws σ ids hm' y))
  (hh1 : ∀ i ∈ ids, s2.h (σ i) = (hm' i).map (yzf σ)) (hh2 : ∀ j ob', (∀ i ∈ ids, σ i ≠ j) → s2.h j = some ob' → (∀ i ∈ ids, ygr (σ i) ob' = false) ∧ ∃ ob, s.h j = some ob ∧ yog ob ob') : K vs.toArray w fun e w' => ∃ u lv2, e = .returned u ∧ Sim B ok0 N s2 lv2 a w' := by
 let lv1 : Live := fun id => if id ∈ ids ∧ (hm id).isSome then lv (σ id) else none
 have hl1 : ∀ id b n, lv1 id = some (b, n) → id ∈ ids ∧ (hm id).isSome ∧ lv (σ id) = some (b, n) := by
  intro id b n hb
  simp only [lv1] at hb
  split at hb
  ·rename_i h; exact ⟨h.1, h.2, hb⟩
  ·cases hb
 have hl2 : ∀ id b n, lv1 id = some (b, n) → lv (σ id) = some (b, n) := fun id b n h => (hl1 id b n h).2.2
 have hmine : ∀ b, ypx lv1 b → B.mine b ∧ b < w.heap.size ∧ ∃ i ∈ ids, ∃ n, lv (σ i) = some (some b, n) := by
  rintro b ⟨id, n, hb⟩
  obtain ⟨h1, h2, h3⟩ := hl1 id _ n hb
  obtain ⟨_, _, h4, h5, _⟩ := hs.inv.lvat h3
  exact ⟨h4, h5, id, h1, n, h3⟩
 have hok1 : ∀ g, ybt B ok0 lv w g → ybt (yga w lv1) (ybt B ok0 lv w) lv1 w g := fun g hg => ⟨.inl hg, hg.2.1, fun id b n hb => hg.2.2 (σ id) b n (hl2 id _ n hb)⟩
 have hinv : Inv (yga w lv1) (ybt B ok0 lv w) hm lv1 w := by
  refine ⟨⟨rfl, rfl, rfl, Nat.le_refl _, fun _ _ _ => rfl, hs.inv.base.glob, hs.inv.base.glob.size, fun k hk => hs.inv.base.mineG (hmine k hk).1, fun l h => by cases h⟩, fun g hg => hg.2.1, fun id hid => by simp [lv1, hid], fun i j b n m h1 h2 => ?_, fun id x hx => ?_⟩
  ·obtain ⟨q1, _, q2⟩ := hl1 _ _ _ h1
   obtain ⟨r1, _, r2⟩ := hl1 _ _ _ h2
   exact hinj i q1 j r1 (hs.inv.inj _ _ b n m q2 r2)
  ·obtain ⟨b, n, h1, h2⟩ := hs.inv.obj (σ id) _ (hmem id x hx)
   have hlv : lv1 id = some (b, n) := by simp [lv1, hdom id (by simp [hx]), hx, h1]
   refine ⟨b, n, hlv, ?_⟩
   cases b with
   | none => exact zgk h2
   | some b => exact ⟨.inl ⟨id, n, hlv⟩, h2.2.1, yhn.unren hl2 hok1 h2.2.2⟩
 have hall : yck (ybt (yga w lv1) (ybt B ok0 lv w) lv1 w) w lv1 args0 vs := by
  refine ⟨by rw [hvs.1, List.length_map], fun i x u hx hu => ?_⟩
  have hrel : Rel (ybt B ok0 lv w) w lv (ygc σ x) u := hvs.2 i _ u (by simp [hx]) hu
  exact (Rel.unren hl2 hrel).keep fun g hg => ⟨hok1 g hg, rfl⟩
 refine hK _ _ _ _ (fun e w' ⟨u, lv3, he, hu, hi3, hpin⟩ => ?_) (hc.2 (ybt B ok0 lv w) lv1 w vs hinv hall)
 have hb3 := hi3.base
 -- the blocks that are not lent stay
 have hstay : ∀ k, k < w.heap.size → (∀ i ∈ ids, ∀ n, lv (σ i) ≠ some (some k, n)) → w'.heap[k]? = w.heap[k]? := by
  intro k hk hn
  exact hb3.block k hk fun hlent => by
   obtain ⟨_, _, i, hi, n, hn'⟩ := hmine k hlent
   exact hn i hi n hn'
 have hsz : w.heap.size ≤ w'.heap.size := hb3.size
 have hmine3 : ∀ id b n, lv3 id = some (some b, n) → B.mine b ∧ b < w'.heap.size ∧ (w.heap.size ≤ b ∨ ∃ i ∈ ids, ∃ n, lv (σ i) = some (some b, n)) := by
  intro id b n hb
  obtain ⟨_, _, q1, q2, _⟩ := hi3.lvat hb
  rcases q1 with q1 | q1
  ·have := hmine b q1
   exact ⟨this.1, q2, .inr this.2.2⟩
  ·exact ⟨.inr (Nat.le_trans hs.inv.base.size q1), q2, .inl q1⟩
 have hid3 : ∀ id b n, lv3 id = some (b, n) → id ∈ ids := fun id b n hb => by
  cases hq : hm' id with
  | none => rw [hi3.dom id hq] at hb; cases hb
  | some o => exact hdom' id (by simp [hq])
 let find : Nat → Option Nat := fun j => ids.find? fun i => σ i == j
 have hf1 : ∀ j i, find j = some i → i ∈ ids ∧ σ i = j := fun j i h => ⟨List.mem_of_find?_eq_some h, by simpa using List.find?_some h⟩
 have hf2 : ∀ i ∈ ids, find (σ i) = some i := fun i hi => by
  cases hq : find (σ i) with
  | none =>
   have := List.find?_eq_none.1 hq i hi
   simp at this
  | some k => obtain ⟨h1, h2⟩ := hf1 _ _ hq; rw [hinj k h1 i hi h2]
 have hf3 : ∀ j, find j = none → ∀ i ∈ ids, σ i ≠ j := fun j h i hi e => by
  have := List.find?_eq_none.1 h i hi
  simp [e] at this
 let lv2 : Live := fun j => match find j with
  | some i => lv3 i
  | none => if (s2.h j).isSome then lv j else none
 have hlv2a : ∀ i ∈ ids, lv2 (σ i) = lv3 i := fun i hi => by simp only [lv2, hf2 i hi]
 have hlv2b : ∀ j, (∀ i ∈ ids, σ i ≠ j) → ∀ b n, lv2 j = some (b, n) → lv j = some (b, n) ∧ (s2.h j).isSome := by
  intro j hj b n hb
  have hn : find j = none := by
   cases hq : find j with
   | none => rfl
   | some i => obtain ⟨h1, h2⟩ := hf1 _ _ hq; exact absurd h2 (hj i h1)
  simp only [lv2, hn] at hb
  split at hb
  ·rename_i h; exact ⟨hb, h⟩
  ·cases hb
 have hcase : ∀ j, (∃ i ∈ ids, σ i = j) ∨ ∀ i ∈ ids, σ i ≠ j := fun j => by
  cases hq : find j with
  | none => exact .inr (hf3 j hq)
  | some i => obtain ⟨h1, h2⟩ := hf1 _ _ hq; exact .inl ⟨i, h1, h2⟩
 have hok2 : ∀ g, ybt B ok0 lv w g → ybt B ok0 lv2 w' g ∧ w'.heap[g]? = w.heap[g]? := by
  intro g hg
  refine ⟨⟨hg.1, Nat.lt_of_lt_of_le hg.2.1 hsz, fun j b n hb => ?_⟩, hstay g hg.2.1 fun i _ n hn => hg.2.2 _ _ n hn rfl⟩
  rcases hcase j with ⟨i, hi, rfl⟩ | hj
  ·rw [hlv2a i hi] at hb
   rcases (hmine3 i b n hb).2.2 with h | ⟨i', _, n', h⟩
   ·have := hg.2.1; omega
   ·exact hg.2.2 _ _ n' h
  ·exact hg.2.2 j b n (hlv2b j hj _ n hb).1
 have hok3 : ∀ g, ybt (yga w lv1) (ybt B ok0 lv w) lv3 w' g → ybt B ok0 lv2 w' g := by
  intro g hg
  refine ⟨?_, hg.2.1, fun j b n hb => ?_⟩
  ·rcases hg.1 with h | h | h
   ·exact h.1
   ·exact .inr (hmine g h).1
   ·exact .inr (.inr (Nat.le_trans hs.inv.base.size h))
  ·rcases hcase j with ⟨i, hi, rfl⟩ | hj
   ·rw [hlv2a i hi] at hb
    exact hg.2.2 i b n hb
   ·obtain ⟨hb', _⟩ := hlv2b j hj _ n hb
    have hlt := hs.inv.lvlt hb'
    rintro rfl
    rcases hg.1 with h | h | h
    ·exact h.2.2 j b n hb' rfl
    ·obtain ⟨_, _, i, hi, n', hn'⟩ := hmine b h
     exact hj i hi (hs.inv.inj _ _ b n' n hn' hb')
    ·simp only [yga] at h; omega
 have hren : ∀ id b n, id ∈ ids → lv2 (σ id) = some (b, n) → lv3 id = some (b, n) := fun id b n hi hb => by rwa [hlv2a id hi] at hb
 have hframe : ∀ (y : AV) (z : Value), (∀ i ∈ ids, ment (σ i) y = false) → Rel (ybt B ok0 lv w) w lv y z → Rel (ybt B ok0 lv2 w') w' lv2 y z := by
  intro y z hy hz
  refine (hz.relive fun j b n hb hm => ?_).keep hok2
  rcases hcase j with ⟨i, hi, rfl⟩ | hj
  ·rw [hy i hi] at hm; cases hm
  ·exact (hlv2b j hj b n hb).1
 refine ⟨u, lv2, he, ⟨⟨?_, hs.inv.ok0lt, fun j hj => ?_, fun i j b n m h1 h2 => ?_, fun j x hx => ?_⟩, hs.size, fun x y hy => ?_, hs.defers.same (fun g hg => (hstay g (Array.getElem?_eq_some_iff.1 hg).1 fun i hi n hn => (hs.inv.lvat hn).choose_spec.2.2.2.notDef hg).trans hg), hs.big, fun j b ws hN hj hcj hb => ?_⟩⟩
 ·-- base
  refine ⟨hb3.os.trans hs.inv.base.os, hb3.tape.trans hs.inv.base.tape, hb3.output.trans hs.inv.base.output, Nat.le_trans hs.inv.base.size hsz, fun k hk hnl => ?_, hb3.glob, hs.inv.base.gsize, hs.inv.base.lentG, hs.inv.base.rdok⟩
  refine (hstay k (Nat.lt_of_lt_of_le hk hs.inv.base.size) fun i hi n hn => ?_).trans (hs.inv.base.block k hk hnl)
  obtain ⟨_, _, q1, _, _⟩ := hs.inv.lvat hn
  rcases q1 with q1 | q1
  ·exact hnl q1
  ·omega
 ·-- dom
  rcases hcase j with ⟨i, hi, rfl⟩ | hj'
  ·rw [hlv2a i hi]
   refine hi3.dom i ?_
   rw [hh1 i hi] at hj
   cases hq : hm' i with
   | none => rfl
   | some o => simp [hq] at hj
  ·cases hq : lv2 j with
   | none => rfl
   | some q => obtain ⟨q1, q2⟩ := q; have := (hlv2b j hj' q1 q2 hq).2; simp [hj] at this
 ·-- inj
  rcases hcase i with ⟨i', hi, rfl⟩ | hi <;> rcases hcase j with ⟨j', hj, rfl⟩ | hj
  ·rw [hlv2a i' hi] at h1
   rw [hlv2a j' hj] at h2
   rw [hi3.inj i' j' b n m h1 h2]
  ·rw [hlv2a i' hi] at h1
   have h2' := (hlv2b j hj _ m h2).1
   have := hs.inv.lvlt h2'
   rcases (hmine3 i' b n h1).2.2 with h | ⟨k, hk, n', h⟩
   ·omega
   ·exact absurd (hs.inv.inj _ _ b n' m h h2') (hj k hk)
  ·rw [hlv2a j' hj] at h2
   have h1' := (hlv2b i hi _ n h1).1
   have := hs.inv.lvlt h1'
   rcases (hmine3 j' b m h2).2.2 with h | ⟨k, hk, n', h⟩
   ·omega
   ·exact absurd (hs.inv.inj _ _ b n' n h h1') (hi k hk)
  ·exact hs.inv.inj i j b n m (hlv2b i hi _ n h1).1 (hlv2b j hj _ m h2).1
 ·-- objects
  rcases hcase j with ⟨i, hi, rfl⟩ | hj
  ·rw [hh1 i hi] at hx
   cases hq : hm' i with
   | none => simp [hq] at hx
   | some ob =>
    simp only [hq, Option.map_some, Option.some.injEq] at hx
    subst hx
    obtain ⟨b, n, q1, q2⟩ := hi3.obj i ob hq
    refine ⟨b, n, by rw [hlv2a i hi]; exact q1, ?_⟩
    cases b with
    | none =>
     simp only [yle] at q2 ⊢
     rcases q2 with rfl | ⟨e, rfl⟩
     ·exact .inl rfl
     ·exact .inr ⟨e, rfl⟩
    | some b =>
     exact ⟨(hmine3 i b n q1).1, q2.2.1, yhn.ren hren (hro i ob hq) hok3 q2.2.2⟩
  ·obtain ⟨hm1, ob, hob, hfo⟩ := hh2 j x hj hx
   obtain ⟨b, n, q1, q2⟩ := hs.inv.obj j ob hob
   have hlv2 : lv2 j = some (b, n) := by
    have hn : find j = none := by
     cases hq : find j with
     | none => rfl
     | some i => obtain ⟨h1, h2⟩ := hf1 _ _ hq; exact absurd h2 (hj i h1)
    simp [lv2, hn, hx, q1]
   refine ⟨b, n, hlv2, ?_⟩
   cases b with
   | none =>
    simp only [yle] at q2 ⊢
    rcases hfo with rfl | ⟨_, _, rfl, _⟩ | ⟨_, _, _, rfl, _⟩
    ·exact q2
    ·simp at q2
    ·simp at q2
   | some b =>
    obtain ⟨q3, q4, q5⟩ := q2
    have hbk : w'.heap[b]? = w.heap[b]? := hstay b q4 fun i hi n' hn' => hj i hi (hs.inv.inj _ _ b n' n hn' q1)
    refine ⟨q3, Nat.lt_of_lt_of_le q4 hsz, ?_⟩
    rcases hfo with rfl | ⟨zs, ys, rfl, rfl, hyl, hyz⟩ | ⟨te, zs, ys, rfl, rfl, hyl, hyz⟩
    ·refine (q5.relive (lv' := lv2) fun k b' n' hb' hmk => ?_).keep hok2 hbk
     rcases hcase k with ⟨i, hi, rfl⟩ | hk
     ·rw [hm1 i hi] at hmk; cases hmk
     ·exact (hlv2b k hk b' n' hb').1
    ·obtain ⟨c, e, g1, g2, g3, g4, g5⟩ := q5
     refine ⟨c, e, by rw [hbk]; exact g1, g2, by omega, fun y hy => ?_, fun k y z hy hz => ?_⟩
     ·obtain ⟨k, hk⟩ := List.getElem?_of_mem hy
      obtain ⟨x, hx⟩ : ∃ x, zs[k]? = some x := ⟨_, List.getElem?_eq_getElem (by have := (List.getElem?_eq_some_iff.1 hk).1; omega)⟩
      rcases hyz k x y hx hk with rfl | rfl
      ·exact g4 _ (List.mem_of_getElem? hx)
      ·rfl
     ·obtain ⟨x, hx⟩ : ∃ x, zs[k]? = some x := ⟨_, List.getElem?_eq_getElem (by have := (List.getElem?_eq_some_iff.1 hy).1; omega)⟩
      rcases hyz k x y hx hy with rfl | rfl
      ·refine hframe _ z (fun i hi => ?_) (g5 k _ z hx hz)
       exact ygm hy (hm1 i hi)
      ·exact .one _ ((g5 k x z hx hz).oneCell (g4 x (List.mem_of_getElem? hx)))
    ·obtain ⟨⟨c, e, g1, g2, g3, g4, g5⟩, hsh⟩ := q5
     refine ⟨⟨c, e, by rw [hbk]; exact g1, g2, by omega, fun y hy => ?_, fun k y z hy hz => ?_⟩, by rw [hyl]; exact (yjs hbk).trans hsh⟩
     ·obtain ⟨k, hk⟩ := List.getElem?_of_mem hy
      obtain ⟨x, hx⟩ : ∃ x, zs[k]? = some x := ⟨_, List.getElem?_eq_getElem (by have := (List.getElem?_eq_some_iff.1 hk).1; omega)⟩
      rcases hyz k x y hx hk with rfl | rfl
      ·exact g4 _ (List.mem_of_getElem? hx)
      ·rfl
     ·obtain ⟨x, hx⟩ : ∃ x, zs[k]? = some x := ⟨_, List.getElem?_eq_getElem (by have := (List.getElem?_eq_some_iff.1 hy).1; omega)⟩
      rcases hyz k x y hx hy with rfl | rfl
      ·refine hframe _ z (fun i hi => ?_) (g5 k _ z hx hz)
       exact ygm hy (hm1 i hi)
      ·exact .one _ ((g5 k x z hx hz).oneCell (g4 x (List.mem_of_getElem? hx)))
 ·-- frame
  rcases ht x y hy with ⟨rfl, z, hz⟩ | ⟨hz, hk⟩
  ·exact ⟨(hs.frame x z hz).1, .any _⟩
  ·refine ⟨(hs.frame x y hz).1, ?_⟩
   have hold := (hs.frame x y hz).2
   rcases hk with hk | ⟨i, hi, off, o', hye, hci, hcc⟩
   ·exact hframe y _ hk hold
   ·have hlp : ∀ z : Value, Rel (ybt B ok0 lv w) w lv (.lp (σ i) off) z → Rel (ybt B ok0 lv2 w') w' lv2 (.lp (σ i) off) z := fun z hz => by
     cases hz with
     | lp _ h1 h2 =>
      refine .lp _ h1 fun b n hb => ?_
      rw [hlv2a i hi] at hb
      obtain ⟨b', n', n'', p1, p2⟩ := hpin i o' hci hcc
      rw [hb] at p2
      cases p2
      exact h2 b n' (hl2 i _ n' p1)
    rcases hye with rfl | ⟨f', rfl⟩
    ·exact hlp _ hold
    ·generalize yfi B a x = z at hold
     cases hold with
     | fm vs hvl hvr =>
      refine .fm vs hvl fun k c u h1 h2 => ?_
      have h3 := hvr k c u h1 h2
      match k, h1 with
      | 0, h1 =>
       simp only [List.getElem?_cons_zero, Option.some.injEq] at h1
       subst h1
       exact hlp _ h3
      | k + 1, h1 => simp at h1
 ·-- pins
  rcases hcase j with ⟨i, hi, rfl⟩ | hj'
  ·rw [hh1 i hi] at hj
   cases hq : hm' i with
   | none => simp [hq] at hj
   | some ob =>
    simp only [hq, Option.map_some, Option.some.injEq] at hj
    subst hj
    rw [yzg] at hcj
    obtain ⟨b', n', n'', p1, p2⟩ := hpin i ob hq hcj
    obtain ⟨zs, hz, hzc⟩ := hc.1 i ob hq hcj
    obtain ⟨n, hn⟩ := hs.pin (σ i) b _ hN (hmem i _ hz) (by rw [yzg]; exact hzc) hb
    rw [hl2 i _ n' p1] at hn
    cases hn
    exact ⟨n'', by rw [hlv2a i hi]; exact p2⟩
  ·obtain ⟨_, ob, hys, hfo⟩ := hh2 j _ hj' hj
   have hcc : isC ob = true := by
    rcases hfo with rfl | ⟨xs', ys', rfl, _, _⟩ | ⟨e, xs', ys', rfl, _, _⟩
    ·exact hcj
    ·rfl
    ·rfl
   obtain ⟨n, hn⟩ := hs.pin j b ob hN hys hcc hb
   obtain ⟨b2, n2, q1, _⟩ := hs.inv.obj j _ hys
   rw [hn] at q1
   cases q1
   have hn' : find j = none := by
    cases hq : find j with
    | none => rfl
    | some i => obtain ⟨h1, h2⟩ := hf1 _ _ hq; exact absurd h2 (hj' i h1)
   exact ⟨n, by simp [lv2, hn', hj, hn]⟩
end
def ysb (P : Program) (R : World → Prop) : List Deferred → World → Prop
 | [], w => R w
 | d :: ds, w => ∃ r w', d.target = .collected r ∧ (Instr.takeDeferred r).run P w = .ok [] w' ∧ ysb P R ds w'
theorem yln {P : Program} {F : Fence} {n : Nat} {R : World → Prop} : ∀ (ds : List Deferred) (w : World) (fr : Frame) (cs : List Frame), fr.mode = .returning → fr.defers = ds → F.fn fr.fn → F.room (cs.length + 1 + n) → ysb P R ds w →
  ∃ w', R w' ∧ StepsIn (Machine.fenced P F) P (lone fr cs w) (lone { fr with defers := [] } cs w')
 | [], w, fr, cs, hm, hd, hF, hr, h => ⟨w, h, by rw [← hd]; exact StepsIn.refl _⟩
 | d :: ds, w, fr, cs, hm, hd, hF, hr, ⟨r, w1, h1, h2, h3⟩ => by
  have hs := step_collected (cs := cs) (by rw [hm]; simp) hd h1 h2
  have i1 : (lone fr cs w).fenced P F := fenced_out hF hr (by rw [hm]; simp) hd (fun g hg => by rw [h1] at hg; simp [Target.leads] at hg)
  obtain ⟨w2, g1, g2⟩ := yln ds w1 { fr with defers := [] ++ ds } cs hm rfl hF hr h3
  exact ⟨w2, g1, .head i1 hs g2⟩
theorem callsDIn_of_wp_marks {P : Program} {F : Fence} {n : Nat} {f : FuncId} {fn : Func} {c : Code} {args : Array Value} {u : FrameMode} {w : World} {R : Ending → World → Prop} (hf : P.funcs[f]? = some fn) (hb : fn.body = some c) (hF : F.fn f)
  (h : c.wpIn F n P (fun e a w' => (e = .normal ∨ e = .ret) ∧ ysb P (fun w2 => ∃ v, (results fn a.tmps).run P w2 = .ok v w2 ∧ R (.returned v) w2) a.defers w') { tmps := args ++ Array.replicate (fn.ntmps - args.size) undef, defers := [] } w) (hro : F.round = none := by rfl) :
  CallsDIn F n P f args u w fun e u' w' => u' = u ∧ R e w' := by
 refine ⟨hF, fun c₀ cs hu hr => ?_⟩
 let b : Frame := { (default : Frame) with fn := f, kind := .deferred, roundOf := none }
 have henter : Frame.enter P f args .deferred =
   b.atR { tmps := args ++ Array.replicate (fn.ntmps - args.size) undef, defers := [] } [.code c] := by
  simp [Frame.enter, Frame.atR, hf, hb, b]
 have hc : ({ c₀ with mode := u } : Frame) = c₀ := by subst hu; rfl
 obtain ⟨e, a', w', ⟨he, hq⟩, harr⟩ := h b [] (c₀ :: cs) hro.symm hF hr
 rw [← henter] at harr
 rcases he with rfl | rfl
 ·obtain ⟨w2, ⟨v, g1, g2⟩, g3⟩ := yln (F := F) (n := n) a'.defers w' { b.atR a' [] with mode := .returning } (c₀ :: cs) rfl rfl hF hr hq
  exact ⟨.returned v, u, w2, _, ⟨rfl, g2⟩, (by rw [hc]; exact StepsIn.trans (StepsIn.trans harr (.one (fenced_calm (fr := b.atR a' []) hF hr rfl) (stepR_end rfl))) g3), rfl, rfl, rfl, rfl, fn, hf, g1⟩
 ·obtain ⟨todo, hs⟩ := harr.1 rfl
  obtain ⟨w2, ⟨v, g1, g2⟩, g3⟩ := yln (F := F) (n := n) a'.defers w' { b.atR a' todo with mode := .returning } (c₀ :: cs) rfl rfl hF hr hq
  exact ⟨.returned v, u, w2, _, ⟨rfl, g2⟩, (by rw [hc]; exact StepsIn.trans hs g3), rfl, rfl, rfl, rfl, fn, hf, g1⟩
theorem yuh {P : Program} {Rw : World → Prop} {B : Bse} {ok0 : Nat → Prop} {N : Nat} {s : SS} {lv : Live} {tm : Array Value} (hB : B.dl = []) (fin : ∀ (a : Act) (w : World), a.tmps = tm → Sim B ok0 N s lv a w → Rw w) : ∀ (ms : List Deferred) (a : Act) (w : World), a.tmps = tm → a.defers = ms → Sim B ok0 N s lv a w → ysb P Rw ms w
 | [], a, w, ht, hm, hs => fin a w ht hs
 | d :: ms, a, w, ht, hm, hs => by
  obtain ⟨ms', h1, hn, h2⟩ := hs.defers
  rw [hB, List.append_nil, hm] at h1
  subst h1
  obtain ⟨D, hd, hD, hge⟩ := h2 d (by simp)
  refine ⟨D, _, by rw [hd], run_takeDeferred hD, ?_⟩
  simp only [List.nodup_cons] at hn
  have hsh := Shut.put hD
  have hs' := hs.shut hsh (fun k hk => World.putObj_heap_other (by omega)) (l := ms) ⟨ms, by rw [hB, List.append_nil], hn.2, fun d' hd' => by
   obtain ⟨D', e1, e2, e3⟩ := h2 d' (by simp [hd'])
   refine ⟨D', e1, (World.putObj_heap_other fun e => ?_).trans e2, e3⟩
   subst e
   exact hn.1 (by rw [hd, ← e1]; exact hd')⟩
  exact yuh hB fin ms { a with defers := ms } _ ht rfl hs'
def bM (w : World) (lv : Live) : Bse := ⟨w, ypx lv, fun id => (lv id).bind (·.1), none, [], fun _ => undef⟩
theorem zpu {N n : Nat} {args : List AV} {hs : Nat → Option LObj} {ok0 : Nat → Prop} {lv : Live} {w : World} {us : List Value} (hN : n = N) (hlen : (Nat.ble args.length N && Nat.ble N 1000000) = true) (hi : Inv (yga w lv) ok0 hs lv w) (hus : yck (ybt (yga w lv) ok0 lv w) w lv args us) :
  Sim (bM w lv) ok0 N ⟨look (yid 0 args), hs⟩ lv { tmps := us.toArray ++ Array.replicate (n - us.toArray.size) undef, defers := [] } w := by
 simp only [Bool.and_eq_true, Nat.ble_eq] at hlen
 obtain ⟨hlen', hbig⟩ := hlen
 refine ⟨hi.pinned _ _ _ _ (fun l h => by cases h), ?_, fun x y hy => ?_, ⟨[], rfl, List.nodup_nil, fun d hd => by cases hd⟩, hbig, fun id b o hN hx hc hb => ?_⟩
 ·simp [hN, hus.1]; omega
 ·simp only [ynm] at hy
  have hlt := (List.getElem?_eq_some_iff.1 hy).1
  refine ⟨.inl (by omega), ?_⟩
  rw [yfi, if_pos (by omega)]
  obtain ⟨u, hu⟩ : ∃ u, us[x]? = some u := ⟨_, List.getElem?_eq_getElem (by rw [hus.1]; exact hlt)⟩
  simp only [ypv us _ x u hu]
  exact hus.2 x y u hy hu
 ·simp only [bM] at hb
  cases hl : lv id with
  | none => simp [hl] at hb
  | some q => obtain ⟨q1, q2⟩ := q; simp [hl] at hb; subst hb; exact ⟨q2, rfl⟩
theorem ztx {P : Program} {T : Nat → Option Ty} (hT : TOK P T) {fn : Func} {N : Nat} {rs : List ResultVar} {r x : AV} {hs hs' : Nat → Option LObj} {ok0 : Nat → Prop} {lv lv' : Live} {w w' : World} {s' : SS} {a' : Act} (hrs : fn.results = rs.toArray) (hcl : ∀ id o, hs' id = some o → isC o = true → N ≤ id ∧ ∃ o', hs id = some o' ∧ isC o' = true)
  (hi : Inv (yga w lv) ok0 hs lv w) (hs2 : Sim (bM w lv) ok0 N s' lv' a' w') (hx : yym T s' rs = some x) (hwk : Wk x r) (hsub : ∀ id o, hs' id = some o → s'.h id = some o) :
  ∃ v, (results fn a'.tmps).run P w' = .ok v w' ∧ ∃ u lv2, Ending.returned v = .returned u ∧ Rel (ybt (yga w lv) ok0 lv2 w') w' lv2 r u ∧ Inv (yga w lv) ok0 hs' lv2 w' ∧ ∀ id o, hs' id = some o → isC o = true → ∃ b n n', lv id = some (some b, n) ∧ lv2 id = some (some b, n') := by
 obtain ⟨u, hu, hrun⟩ := zbx (P := P) hT hs2 hrs hx
 obtain ⟨lv2, i1, i2, i3⟩ := hs2.inv.weak hsub
 refine ⟨u, hrun, u, lv2, rfl, hwk.rel _ _ _ _ ((hu.relive fun id b n hb _ => i2 id b n hb).keep fun g hg => ⟨i3 g hg, rfl⟩), i1.pinned _ _ _ _ (fun l h => by cases h), fun id o hx hc => ?_⟩
 obtain ⟨h1, o', hy, hc'⟩ := hcl id o hx hc
 obtain ⟨b, n, hb, ho⟩ := hi.obj id _ hy
 cases b with
 | none => simp only [yle] at ho; rcases ho with rfl | ⟨e, rfl⟩ <;> cases hc'
 | some b =>
  obtain ⟨n', hn'⟩ := hs2.pin id b o h1 (hsub id _ hx) hc (by simp [bM, hb])
  obtain ⟨b2, n2, hb2, _⟩ := i1.obj id _ hx
  have := i2 id b2 n2 hb2
  rw [hn'] at this
  cases this
  exact ⟨b, n, _, hb, hb2⟩
theorem conKD_of {P : Program} {T : Nat → Option Ty} (hT : TOK P T) {f : FuncId} {fn : Func} {c : Code} {N : Nat} {rs : List ResultVar} {args : List AV} {hs hs' : Nat → Option LObj} {r : AV} (u : FrameMode) (hf : P.funcs[f]? = some fn) (hb : fn.body = some c) (hN : fn.ntmps = N) (hrs : fn.results = rs.toArray) (hlen : (Nat.ble args.length N && Nat.ble N 1000000) = true)
  (hcl : ∀ id o, hs' id = some o → isC o = true → N ≤ id ∧ ∃ o', hs id = some o' ∧ isC o' = true) (h : A P N c (zpc T rs r hs') ⟨look (yid 0 args), hs⟩) : ztq (KD P f u u) args hs r hs' := by
 refine ⟨fun id o hx hc => (hcl id o hx hc).2, fun ok0 lv w us hi hus => callsDIn_of_wp_marks hf hb trivial ?_⟩
 refine wpIn_mono (h _ ok0 _ _ w (zpu hN hlen hi hus)) fun e a' w' ⟨s', lv', hq, hs2⟩ => ?_
 cases e with
 | normal => obtain ⟨x, hx, h1, h2⟩ := hq; exact ⟨.inl rfl, yuh (B := bM w lv) (tm := a'.tmps) rfl (fun a2 w2 ht hs3 => by have := ztx hT hrs hcl hi hs3 hx h1 h2 (fn := fn); rwa [ht] at this) _ a' w' rfl rfl hs2⟩
 | ret => obtain ⟨x, hx, h1, h2⟩ := hq; exact ⟨.inr rfl, yuh (B := bM w lv) (tm := a'.tmps) rfl (fun a2 w2 ht hs3 => by have := ztx hT hrs hcl hi hs3 hx h1 h2 (fn := fn); rwa [ht] at this) _ a' w' rfl rfl hs2⟩
 | _ => exact hq.elim
def bD (B : Bse) (lv : Live) (w : World) (dl : List Deferred) (gv : Nat → Value) : Bse := ⟨w, ypx lv, B.pin, none, dl, gv⟩
theorem Sim.rebase {B : Bse} {ok0 : Nat → Prop} {N : Nat} {s : SS} {lv : Live} {a : Act} {w : World} (hs : Sim B ok0 N s lv a w) (hlow : ∀ x, 1000000 ≤ x → s.t x = none) (gv : Nat → Value) : Sim (bD B lv w a.defers gv) (ybt B ok0 lv w) N s lv a w := by
 have hm : ∀ b, ypx lv b → B.mine b ∧ b < w.heap.size := by
  rintro b ⟨id, n, hb⟩
  obtain ⟨_, _, h4, h5, _⟩ := hs.inv.lvat hb
  exact ⟨h4, h5⟩
 have hok : ∀ g, ybt B ok0 lv w g → ybt (bD B lv w a.defers gv) (ybt B ok0 lv w) lv w g := fun g hg => ⟨.inl hg, hg.2.1, hg.2.2⟩
 refine ⟨⟨⟨rfl, rfl, rfl, Nat.le_refl _, fun _ _ _ => rfl, hs.inv.base.glob, hs.inv.base.glob.size, fun k hk => hs.inv.base.mineG (hm k hk).1, fun l h => by cases h⟩, fun g hg => hg.2.1, hs.inv.dom, hs.inv.inj, fun id x hx => ?_⟩, hs.size, fun x y hy => ?_, ⟨[], rfl, List.nodup_nil, fun d hd => by cases hd⟩, hs.big, hs.pin⟩
 ·obtain ⟨b, n, h1, h2⟩ := hs.inv.obj id x hx
  refine ⟨b, n, h1, ?_⟩
  cases b with
  | none => exact h2
  | some b => exact ⟨.inl ⟨id, n, h1⟩, h2.2.1, h2.2.2.keep (fun g hg => ⟨hok g hg, rfl⟩) rfl⟩
 ·obtain ⟨h1, h2⟩ := hs.frame x y hy
  refine ⟨h1, ?_⟩
  have hlt : x < 1000000 := by
   rcases Nat.lt_or_ge x 1000000 with h | h
   ·exact h
   ·rw [hlow x h] at hy; cases hy
  have e : yfi (bD B lv w a.defers gv) a x = yfi B a x := by simp [yfi, hlt]
  rw [e]
  exact h2.keep fun g hg => ⟨hok g hg, rfl⟩
theorem Sim.unbase {B : Bse} {ok0 : Nat → Prop} {N : Nat} {s s' : SS} {lv lv' : Live} {a a' : Act} {w w' : World} {dl ds : List Deferred} {gv : Nat → Value} (hs : Sim B ok0 N s lv a w) (hrd : B.rd = none) (hs' : Sim (bD B lv w dl gv) (ybt B ok0 lv w) N s' lv' a' w') (hds : zcx B w' ds) (hlow : ∀ x, 1000000 ≤ x → s'.t x = none) : Sim B ok0 N s' lv' { a' with defers := ds } w' := by
 have hm : ∀ b, ypx lv b → B.mine b := by
  rintro b ⟨id, n, hb⟩
  obtain ⟨_, _, h4, h5, _⟩ := hs.inv.lvat hb
  exact h4
 have hmine : ∀ g, (bD B lv w dl gv).mine g → B.mine g := by
  rintro g (h | h)
  ·exact hm g h
  ·exact .inr (Nat.le_trans hs.inv.base.size h)
 have hok : ∀ g, ybt (bD B lv w dl gv) (ybt B ok0 lv w) lv' w' g → ybt B ok0 lv' w' g := fun g hg => ⟨by
  rcases hg.1 with h | h
  ·exact h.1
  ·exact .inr (hmine g h), hg.2.1, hg.2.2⟩
 have hb := hs'.inv.base
 have hw := hs.inv.base
 refine ⟨⟨⟨hb.os.trans hw.os, hb.tape.trans hw.tape, hb.output.trans hw.output, Nat.le_trans hw.size hb.size, fun k hk hnl => ?_, hb.glob, hw.gsize, hw.lentG, fun l h => by rw [hrd] at h; cases h⟩, hs.inv.ok0lt, hs'.inv.dom, hs'.inv.inj, fun id x hx => ?_⟩, hs'.size, fun x y hy => ?_, hds, hs'.big, hs'.pin⟩
 ·refine (hb.block k (Nat.lt_of_lt_of_le hk hw.size) fun h => ?_).trans (hw.block k hk hnl)
  rcases hm k h with h | h
  ·exact hnl h
  ·omega
 ·obtain ⟨b, n, h1, h2⟩ := hs'.inv.obj id x hx
  refine ⟨b, n, h1, ?_⟩
  cases b with
  | none => exact h2
  | some b => exact ⟨hmine b h2.1, h2.2.1, h2.2.2.keep (fun g hg => ⟨hok g hg, rfl⟩) rfl⟩
 ·obtain ⟨h1, h2⟩ := hs'.frame x y hy
  refine ⟨h1, ?_⟩
  have hlt : x < 1000000 := by
   rcases Nat.lt_or_ge x 1000000 with h | h
   ·exact h
   ·rw [hlow x h] at hy; cases hy
  have e : yfi (bD B lv w dl gv) a' x = yfi B { a' with defers := ds } x := by simp [yfi, hlt]
  rw [e] at h2
  exact h2.keep fun g hg => ⟨hok g hg, rfl⟩
theorem yud {P : Program} {fn : Func} {R : Ending → World → Prop} {B : Bse} {ok0 : Nat → Prop} {N n : Nat} {s : SS} {lv : Live} {u : FrameMode} (hu : u ≠ .run) {tm : Array Value}
  (fin : ∀ (a : Act) (w : World), a.tmps = tm → Sim B ok0 N s lv a w → LeavesInM Fence.wide n P fn tm R B.dl u w) : ∀ (ms : List Deferred) (a : Act) (w : World), a.tmps = tm → a.defers = ms ++ B.dl → ms.Nodup →
   (∀ d ∈ ms, ∃ D, d = { target := .collected D, args := #[] } ∧ w.heap[D]? = some (.deferred (some [])) ∧ B.w.heap.size ≤ D) → Sim B ok0 N s lv a w → LeavesInM Fence.wide n P fn tm R (ms ++ B.dl) u w
 | [], a, w, ht, hd, hn, h2, hs => fin a w ht hs
 | d :: ms, a, w, ht, hd, hn, h2, hs => by
  obtain ⟨D, hdd, hD, hge⟩ := h2 d (by simp)
  refine ⟨hu, .inl ⟨D, _, by rw [hdd], run_takeDeferred hD, ?_⟩⟩
  simp only [List.nodup_cons] at hn
  have hsh := Shut.put hD
  have hrest : ∀ d' ∈ ms, ∃ D', d' = { target := .collected D', args := #[] } ∧ (w.putObj D (.deferred none)).heap[D']? = some (.deferred (some [])) ∧ B.w.heap.size ≤ D' := fun d' hd' => by
   obtain ⟨D', e1, e2, e3⟩ := h2 d' (by simp [hd'])
   refine ⟨D', e1, (World.putObj_heap_other fun e => ?_).trans e2, e3⟩
   subst e
   exact hn.1 (by rw [hdd, ← e1]; exact hd')
  have hs' := hs.shut hsh (fun k hk => World.putObj_heap_other (by omega)) (l := ms ++ B.dl) ⟨ms, rfl, hn.2, hrest⟩
  exact yud hu fin ms { a with defers := ms ++ B.dl } _ ht rfl hn.2 hrest hs'
def zut (P : Program) (N : Nat) (B : Bse) (ok0 : Nat → Prop) (Q : Option (FuncId × Nat) → Exit → SS → Prop) (e : Exit) (a' : Act) (w' : World) : Prop :=
 (∃ s' lv', Q none e s' ∧ Sim B ok0 N s' lv' a' w') ∨
 ∃ (g : FuncId) (vs : List Value) (d : Deferred) (s0 : SS) (lv0 : Live) (a0 : Act) (w0 : World) (s' : SS) (lv' : Live), Sim B ok0 N s0 lv0 a0 w0 ∧ (∃ fv cap, d.target = .fn fv cap ∧ ∀ w, (invoke (.fn fv cap) d.args).run P w = .ok (.enter g vs.toArray) w) ∧
  Q (some (g, vs.length)) e s' ∧ Sim (bD B lv0 w0 (d :: a0.defers) (fun x => vs.getD (x - 1000000) undef)) (ybt B ok0 lv0 w0) N s' lv' a' w'
def AF (P : Program) (N : Nat) (c : Code) (Q : Option (FuncId × Nat) → Exit → SS → Prop) (s : SS) : Prop :=
 ∀ (B : Bse) (ok0 : Nat → Prop) (lv : Live) (a : Act) (w : World), B.rd = none → B.dl = [] → Sim B ok0 N s lv a w → c.wpIn Fence.wide 0 P (zut P N B ok0 Q) a w
section
variable {P : Program} {N : Nat} {Q : Option (FuncId × Nat) → Exit → SS → Prop} {s : SS}
theorem ygf {c : Code} (h : A P N c (Q none) s) : AF P N c Q s := fun B ok0 lv a w hrd hdl hs => by
 have := h B ok0 lv a w hs
 rw [hrd] at this
 exact wpIn_mono this fun e a' w' ⟨s', lv', h1, h2⟩ => .inl ⟨s', lv', h1, h2⟩
def ThenF (P : Program) (N : Nat) (y : Code) (Q : Option (FuncId × Nat) → Exit → SS → Prop) : Option (FuncId × Nat) → Exit → SS → Prop
 | none, .normal, s => AF P N y Q s
 | some D, .normal, s => A P N y (Q (some D)) s
 | D, e, s => Q D e s
theorem ygu {x y : Code} (h : AF P N x (ThenF P N y Q) s) : AF P N (.seq x y) Q s := by
 intro B ok0 lv a w hrd hdl hs
 refine wpIn_seq (wpIn_mono (h B ok0 lv a w hrd hdl hs) fun e a' w' hp => ?_)
 rcases hp with ⟨s', lv', h1, h2⟩ | ⟨g, vs, d, s0, lv0, a0, w0, s', lv', p1, p2, p3, p4⟩
 ·cases e with
  | normal => exact h1 B ok0 lv' a' w' hrd hdl h2
  | _ => exact .inl ⟨s', lv', h1, h2⟩
 ·cases e with
  | normal => exact wpIn_mono (p3 _ _ lv' a' w' p4) fun e a2 w2 ⟨s2, lv2, q1, q2⟩ => .inr ⟨g, vs, d, s0, lv0, a0, w0, s2, lv2, p1, p2, q1, q2⟩
  | _ => exact .inr ⟨g, vs, d, s0, lv0, a0, w0, s', lv', p1, p2, p3, p4⟩
theorem zkh {c : Operand} {x y : Code} {b : Bool} (hc : evF s.t c = some (.v (.bool b))) (h1 : b = true → AF P N x Q s) (h2 : b = false → AF P N y Q s) : AF P N (.cond c x y) Q s := by
 intro B ok0 lv a w hrd hdl hs
 refine wpIn_cond (t := b) (zng (hs.eval hc)) ?_
 cases b with
 | true => exact h1 rfl B ok0 lv a w hrd hdl hs
 | false => exact h2 rfl B ok0 lv a w hrd hdl hs
theorem zbc {ops : Array Oper} {lf : Oper → Bool} {Q : SS → Prop} {B : Bse} {ok0 : Nat → Prop} {Q' : Exit → Act → World → Prop} {n : Nat} {rest : List Nat} (hQ : ∀ s lv a w, Q s → Sim B ok0 N s lv a w → wpOpsIn (FW B.rd) n P ops Q' rest a w) {l : List Oper} {s : SS}
  (h : Lex P N ops lf Q l s) : yhr l = true → ∀ (k : Nat), (∀ (j : Nat) (o : Oper), l[j]? = some o → ops[k + j]? = some o) → ∀ (lv : Live) (a : Act) (w : World), Sim B ok0 N s lv a w → wpOpsIn (FW B.rd) n P ops Q' (List.range' k l.length ++ rest) a w := by
 induction h with
 | nil h => intro hnd k hl lv a w hs; exact hQ _ lv a w h hs
 | @calm o l s r hw hd hy k ih =>
  intro hnd k hl lv a w hs
  simp only [yhr, List.all_cons, Bool.and_eq_true, Bool.not_eq_true'] at hnd
  have h0 : ops[k]? = some o := by simpa using hl 0 o rfl
  simp only [List.length_cons, List.range'_succ, List.cons_append, wpOpsIn, h0, hs.wanted hw, if_true]
  exact yon hnd.1 (yzq hs hd hy Q' fun a' w' hs' => ih hnd.2 (k + 1) (fun j o' ho' => by have := hl (j + 1) o' (by simpa using ho'); rwa [show k + (j + 1) = k + 1 + j by omega] at this) lv a' w' hs')
 | @skip o l s hw hd k ih =>
  intro hnd k hl lv a w hs
  simp only [yhr, List.all_cons, Bool.and_eq_true, Bool.not_eq_true'] at hnd
  have h0 : ops[k]? = some o := by simpa using hl 0 o rfl
  simp only [List.length_cons, List.range'_succ, List.cons_append, wpOpsIn, h0, hs.wanted hw, Bool.false_eq_true, if_false]
  exact ⟨fun _ _ => trivial, ih hnd.2 (k + 1) (fun j o' ho' => by have := hl (j + 1) o' (by simpa using ho'); rwa [show k + (j + 1) = k + 1 + j by omega] at this) lv _ w (hs.put hd hs.inv (Below.refl _ _) (.v _))⟩
 | @loud o l s R hl' hw hy k ih =>
  intro hnd k hl lv a w hs
  simp only [yhr, List.all_cons, Bool.and_eq_true, Bool.not_eq_true'] at hnd
  have h0 : ops[k]? = some o := by simpa using hl 0 o rfl
  simp only [List.length_cons, List.range'_succ, List.cons_append, wpOpsIn, h0, hs.wanted hw, if_true]
  refine yon hnd.1 (Oper.wp_mono (fun a' w' ⟨s', lv', hR, hs'⟩ => ?_) (hy B ok0 lv a w hs Q'))
  exact ih s' hR hnd.2 (k + 1) (fun j o' ho' => by have := hl (j + 1) o' (by simpa using ho'); rwa [show k + (j + 1) = k + 1 + j by omega] at this) lv' a' w' hs'
 | @split l s d b hb k ih =>
  intro hnd k hl lv a w hs
  refine ih b rfl hnd k hl lv a w ?_
  rw [ykf hb]
  exact hs
theorem ygg {lf : Oper → Bool} {id : Nat} {l : List Oper} (k : Nat) {o : Oper} {l1 l2 : List Oper} {g : Operand} {args : List Operand} {ats : Array TypeId} (hk : l[k]? = some o) (h1 : l.take k = l1) (h2 : l.drop (k + 1) = l2) (hn1 : yhr l1 = true) (hn2 : yhr l2 = true) (ho : o.op = .defer { callee := .value g, args := args.toArray, argTypes := ats }) (hdst : ytk N o)
  (h : Lex P N l.toArray lf (fun s1 => yan l.toArray s1.t o = some true ∧ ∃ f caps xs, ypi P f ∧ evF s1.t g = some (.fn f caps) ∧ evL (evF s1.t) args = some xs ∧ (∀ x, 1000000 ≤ x → s1.t x = none) ∧
   Lex P N l.toArray lf (Q (some (f, xs.length + caps.length)) .normal) l2 ⟨fun x => if 1000000 ≤ x then (xs ++ caps)[x - 1000000]? else yhi s1.t o.dst (.v undef) x, s1.h⟩) l1 s) : AF P N (.region id l.toArray false) Q s := by
 intro B ok0 lv a w hrd hdl hs
 have hlt := (List.getElem?_eq_some_iff.1 hk).1
 have hlen : l1.length = k := by rw [← h1, List.length_take]; omega
 have hlen2 : l2.length = l.length - k - 1 := by rw [← h2, List.length_drop]; omega
 have hFW : FW B.rd = Fence.wide := by rw [hrd]; rfl
 refine wpIn_region ?_
 have hsp : List.range l.toArray.size = List.range' 0 l1.length ++ (k :: (List.range' (k + 1) l2.length ++ [])) := by
  rw [List.append_nil, List.size_toArray, List.range_eq_range', hlen, hlen2]
  have e : l.length = k + ((l.length - k - 1) + 1) := by omega
  conv => lhs; rw [e]
  rw [← List.range'_append_1, Nat.zero_add, List.range'_succ]
 rw [hsp, ← hFW]
 refine zbc (fun s1 lv1 a1 w1 hq hs1 => ?_) h hn1 0 (fun j o' ho' => ?_) lv a w hs
 ·have h0 : l.toArray[k]? = some o := by simpa using hk
  obtain ⟨hwt, f, caps, xs, hbody, hg, hx, hlow, hlex⟩ := hq
  simp only [wpOpsIn, h0, hs1.wanted hwt, if_true]
  have hfr := hs1.eval hg
  have har := ysj (a := a1) args xs (fun x y _ hxy => hs1.eval hxy) hx
  generalize hv : a1.eval g = v at hfr
  cases hfr with
  | fn vs hl hrc =>
  let d : Deferred := { target := .fn (.func f) vs.toArray, args := (args.map a1.eval).toArray }
  have hrun : (o.semAt (FW B.rd).round a1.eval).run P w1 = .ok (.defer d) w1 := by
   rw [hFW]
   unfold Oper.semAt execOp
   simp only [ho, Fence.wide, resolve, Deferred.ofValue, hv, Sem.run_bind, Sem.run_pure, Result.andThen_ok]
   simp [d]
  refine ⟨fun _ _ => by rw [hFW]; trivial, ?_⟩
  rw [hrun, Oper.uponIn_defer]
  let gv : Nat → Value := fun x => (args.map a1.eval ++ vs).getD (x - 1000000) undef
  have hreb := hs1.rebase hlow gv
  have hsim : Sim (bD B lv1 w1 (d :: a1.defers) gv) (ybt B ok0 lv1 w1) N ⟨fun x => if 1000000 ≤ x then (xs ++ caps)[x - 1000000]? else yhi s1.t o.dst (.v undef) x, s1.h⟩ lv1 ({ a1 with defers := d :: a1.defers }.put o.dst undef) w1 := by
   refine ⟨hreb.inv.pinned _ none _ _ (fun l h => by cases h), ?_, fun x y hy => ?_, ⟨[], ?_, List.nodup_nil, fun d hd => by cases hd⟩, hs1.big, hs1.pin⟩
   ·cases hd : o.dst <;> simp [Act.put, hs1.size]
   ·simp only at hy
    split at hy
    ·rename_i hge
     refine ⟨.inr hge, ?_⟩
     have e : yfi (bD B lv1 w1 (d :: a1.defers) gv) ({ a1 with defers := d :: a1.defers }.put o.dst undef) x = gv x := by simp only [yfi]; rw [if_neg (by omega)]; rfl
     rw [e]
     have hval : ∃ u, (args.map a1.eval ++ vs)[x - 1000000]? = some u ∧ Rel (ybt B ok0 lv1 w1) w1 lv1 y u := by
      by_cases hxl : x - 1000000 < xs.length
      ·rw [List.getElem?_append_left hxl] at hy
       have hl2 : x - 1000000 < (args.map a1.eval).length := by rw [har.1]; exact hxl
       exact ⟨(args.map a1.eval)[x - 1000000], by rw [List.getElem?_append_left hl2, List.getElem?_eq_getElem hl2], har.2 _ y _ hy (List.getElem?_eq_getElem hl2)⟩
      ·rw [List.getElem?_append_right (by omega)] at hy
       have hl2 : x - 1000000 - xs.length < vs.length := by have := (List.getElem?_eq_some_iff.1 hy).1; rw [hl]; exact this
       exact ⟨vs[x - 1000000 - xs.length], by rw [List.getElem?_append_right (by rw [har.1]; omega), har.1, List.getElem?_eq_getElem hl2], hrc _ y _ hy (List.getElem?_eq_getElem hl2)⟩
     obtain ⟨u, hu1, hu2⟩ := hval
     have : gv x = u := by simp only [gv, List.getD_eq_getElem?_getD, hu1, Option.getD_some]
     rw [this]
     exact hu2.keep fun g hg => ⟨⟨.inl hg, hg.2.1, hg.2.2⟩, rfl⟩
    ·rename_i hge
     have hput := (hreb.put (d := o.dst) (u := undef) hdst hreb.inv (Below.refl _ _) (.v _)).frame x y hy
     refine ⟨hput.1, ?_⟩
     have e : yfi (bD B lv1 w1 (d :: a1.defers) gv) ({ a1 with defers := d :: a1.defers }.put o.dst undef) x = yfi (bD B lv1 w1 a1.defers gv) (a1.put o.dst undef) x := by
      simp only [yfi]
      rw [if_pos (by omega), if_pos (by omega)]
      cases o.dst <;> rfl
     rw [e]
     exact hput.2
   ·cases hd : o.dst <;> rfl
  have hrest := zbc (B := bD B lv1 w1 (d :: a1.defers) gv) (ok0 := ybt B ok0 lv1 w1) (Q' := zut P N B ok0 Q) (n := 0) (rest := []) (fun s2 lv2 a2 w2 hq2 hs2 => ?_) hlex hn2 (k + 1) (fun j o' ho' => ?_) lv1 _ w1 hsim
  ·rw [hFW]; exact hrest
  ·refine .inr ⟨f, args.map a1.eval ++ vs, d, s1, lv1, a1, w1, s2, lv2, hs1, ⟨.func f, vs.toArray, rfl, fun w => ?_⟩, ?_, hs2⟩
   ·simp only [invoke, d]
    rw [ykd hbody]
    simp
   ·rw [List.length_append, har.1, hl]; exact hq2
  ·rw [← h2, List.getElem?_drop] at ho'
   simpa using ho'
 ·rw [← h1, List.getElem?_take] at ho'
  split at ho'
  ·rw [Nat.zero_add]; simpa using ho'
  ·cases ho'
def zmz : Exit → Option FrameMode
 | .normal => some .returning
 | .ret => some .returning
 | .panic ch => some (.panicking ch)
 | _ => none
def zun (P : Program) (T : Nat → Option Ty) (rs : List ResultVar) (r : AV) (hs' : Nat → Option LObj) : Option (FuncId × Nat) → Exit → SS → Prop
 | none, e, s => zpc T rs r hs' e s
 | some (g, n), e, s => ∃ (u u' : FrameMode) (args0 : List AV) (hm : Nat → Option LObj) (v : AV) (hm' : Nat → Option LObj) (σ : Nat → Nat) (ids : List Nat) (s2 : SS), zmz e = some u ∧ settle u' = .returning ∧ args0.length = n ∧ (∀ i x, args0[i]? = some x → s.t (1000000 + i) = some (ygc σ x)) ∧ ztq (KD P g u u') args0 hm v hm' ∧
   ((∀ i ∈ ids, ∀ j ∈ ids, σ i = σ j → i = j) ∧ (∀ id, (hm id).isSome → id ∈ ids) ∧ (∀ id, (hm' id).isSome → id ∈ ids) ∧ (∀ id o, hm id = some o → s.h (σ id) = some (yzf σ o)) ∧ (∀ id o, hm' id = some o → ywf ids o = true) ∧
    (∀ x y, s2.t x = some y → (y = .any ∧ ∃ z, s.t x = some z) ∨ (s.t x = some y ∧ zws σ ids hm' y)) ∧ (∀ i ∈ ids, s2.h (σ i) = (hm' i).map (yzf σ)) ∧ ∀ j ob', (∀ i ∈ ids, σ i ≠ j) → s2.h j = some ob' → (∀ i ∈ ids, ygr (σ i) ob' = false) ∧ ∃ ob, s.h j = some ob ∧ yog ob ob') ∧
   (∀ x, 1000000 ≤ x → s2.t x = none) ∧ ∃ x, yym T s2 rs = some x ∧ Wk x r ∧ ∀ id o, hs' id = some o → s2.h id = some o
theorem ytr {T : Nat → Option Ty} (hT : TOK P T) {f : FuncId} {fn : Func} {c : Code} {rs : List ResultVar} {args : List AV} {hs hs' : Nat → Option LObj} {r : AV} (hf : P.funcs[f]? = some fn) (hn : (fn.name == "runtime.NumGoroutine") = false) (hb : fn.body = some c) (hN : fn.ntmps = N) (hrs : fn.results = rs.toArray) (hlen : (Nat.ble args.length N && Nat.ble N 1000000) = true)
  (hcl : ∀ id o, hs' id = some o → isC o = true → N ≤ id ∧ ∃ o', hs id = some o' ∧ isC o' = true) (h : AF P N c (zun P T rs r hs') ⟨look (yid 0 args), hs⟩) : yhb P f args hs r hs' := by
 refine ⟨⟨fn, hf, hn, by simp [hb]⟩, fun id o hx hc => (hcl id o hx hc).2, fun ok0 lv w us hi hus => ?_⟩
 refine (callsIn_wide (n := 0)).1 (callsIn_of_wp_marks hf hb trivial ?_)
 refine wpIn_mono (h _ ok0 _ _ w rfl rfl (zpu hN hlen hi hus)) fun e a' w' hp => ?_
 rcases hp with ⟨s', lv', hq, hs2⟩ | ⟨g, vs, d, s0, lv0, a0, w0, s', lv', p1, ⟨fv, cap, p2, p3⟩, ⟨u, u', args0, hm, v, hm', σ, ids, s2, q1, q2, q3, q4, q5, ⟨c1, c2, c3, c4, c5, c6, c7, c8⟩, q6, x, q7, q8, q9⟩, p4⟩
 ·cases e with
  | normal => obtain ⟨x, hx, h1, h2⟩ := hq; exact yeg rfl rfl (fun a2 w2 hs3 => ztx hT hrs hcl hi hs3 hx h1 h2) _ a' w' rfl hs2
  | ret => obtain ⟨x, hx, h1, h2⟩ := hq; exact yeg rfl rfl (fun a2 w2 hs3 => ztx hT hrs hcl hi hs3 hx h1 h2) _ a' w' rfl hs2
  | _ => exact hq.elim
 have hu : u ≠ .run := by
  cases e <;> simp only [zmz, Option.some.injEq] at q1 <;> first | (subst q1; simp) | cases q1
 have main : LeavesInM Fence.wide 0 P fn a'.tmps (fun e w' => ∃ u lv', e = .returned u ∧ Rel (ybt (yga w lv) ok0 lv' w') w' lv' r u ∧ Inv (yga w lv) ok0 hs' lv' w' ∧ ∀ id o, hs' id = some o → isC o = true → ∃ b n n', lv id = some (some b, n) ∧ lv' id = some (some b, n')) a'.defers u w' := by
  obtain ⟨ms, m1, m2, m3⟩ := p4.defers
  rw [m1]
  refine yud hu (B := bD (bM w lv) lv0 w0 (d :: a0.defers) (fun x => vs.getD (x - 1000000) undef)) (tm := a'.tmps) (fun a1 w1 ht hs1 => ?_) ms a' w' rfl m1 m2 m3 p4
  refine ⟨hu, .inr ⟨fun h => (by cases h), fv, cap, g, vs.toArray, p2, (by rw [p2]; exact p3 w1), fun _ _ => trivial, ?_⟩⟩
  have hvs : yck (ybt (bD (bM w lv) lv0 w0 (d :: a0.defers) (fun x => vs.getD (x - 1000000) undef)) (ybt (bM w lv) ok0 lv0 w0) lv' w1) w1 lv' (args0.map (ygc σ)) vs := by
   refine ⟨by rw [List.length_map, q3], fun i y z hy hz => ?_⟩
   rw [List.getElem?_map] at hy
   cases hx : args0[i]? with
   | none => rw [hx] at hy; cases hy
   | some x0 =>
    rw [hx] at hy
    simp only [Option.map_some, Option.some.injEq] at hy
    subst hy
    have := (hs1.frame _ _ (q4 i x0 hx)).2
    have e : yfi (bD (bM w lv) lv0 w0 (d :: a0.defers) (fun x => vs.getD (x - 1000000) undef)) a1 (1000000 + i) = z := by
     simp only [yfi]
     rw [if_neg (by omega)]
     simp only [bD, Nat.add_sub_cancel_left, List.getD_eq_getElem?_getD, hz, Option.getD_some]
    rw [e] at this
    exact this
  have hcall := lendK (K := KD P g u u') (fun us w R R' h hk => KD.mono h hk) hs1 hvs q5 c1 c2 c3 c4 c5 c6 c7 c8
  refine CallsDIn.mono hcall fun e u2 w2 ⟨hu2, v2, lv2, he, hs2⟩ => ?_
  subst he hu2
  simp only
  rw [q2]
  have hds : zcx (bM w lv) w2 a0.defers := p1.defers.same fun D hD => by
   have hlt := (Array.getElem?_eq_some_iff.1 hD).1
   exact (hs2.inv.base.block D hlt (fun ⟨id, n, hn⟩ => (p1.inv.lvat hn).choose_spec.2.2.2.notDef hD)).trans hD
  have hs3 := Sim.unbase p1 rfl hs2 hds q6
  rw [← ht]
  exact yeg (B := bM w lv) rfl rfl (fun a2 w3 hs4 => ztx hT hrs hcl hi hs4 q7 q8 q9) _ { a1 with defers := a0.defers } w2 rfl hs3
 cases e <;> simp only [zmz, Option.some.injEq] at q1 <;> first | (subst q1; exact main) | cases q1
end
section
variable {P : Program} {ty : TypeId} {h : Nat → Option LObj} {ρ : Operand → Option AV}
theorem zcu {x : Operand} {tt : TypeId} {fs : Array Field} {y : AV} {u : Value} (hu : P.underlying tt = some (.struct fs)) (hx : ρ x = some y) (hv : toV y = some u) : ydl P h ρ (.makeInterface tt x) ty (.v (.iface tt u)) := by
 refine yec (fun _ _ => by simp) (by simp [yiq, Op.operands, hx, hv]) fun w => ?_
 simp [execOp, Instr.makeInterface, yxn, hx, hv, run_underlying hu]
theorem yield_eqNilYes {x : Operand} {c : Value} {ti : TypeId} {ty' : TypeId} (hu : P.underlying ti = some (.interface (P.methodsAt ti))) (hx : ρ x = some (.v .nilIface)) (hy : ρ (.const c) = some (.v .nilIface)) : ydl P h ρ (.binOp .eql ti x (.const c) ty') ty (.v (.bool true)) := by
 refine yec (fun _ _ => by simp) (by simp [yiq, Op.operands, hx, hy, toV]) fun w => ?_
 simp [execOp, yiz hx, yiz hy, eqGuard, binOp, run_equal_nil_nil w ti hu]
end
theorem callsDIn_of_wpSIn_marks {P : Program} {F : Fence} {n : Nat} {f : FuncId} {fn : Func} {c : Code} {args : Array Value} {u u' : FrameMode} {w : World} {R : Ending → World → Prop} (hf : P.funcs[f]? = some fn) (hb : fn.body = some c) (hF : F.fn f)
  (h : ∀ (c₀ : Frame) (cs : List Frame), c₀.mode = u → c.wpSIn F n P (fun e a cs' w' => (e = .normal ∨ e = .ret) ∧ cs' = { c₀ with mode := u' } :: cs ∧ ysb P (fun w2 => ∃ v, (results fn a.tmps).run P w2 = .ok v w2 ∧ R (.returned v) w2) a.defers w') { tmps := args ++ Array.replicate (fn.ntmps - args.size) undef, defers := [] } (c₀ :: cs) w) :
  CallsDIn F n P f args u w fun e u2 w' => u2 = u' ∧ R e w' := by
 refine ⟨hF, fun c₀ cs hu hroom => ?_⟩
 let b : Frame := { (default : Frame) with fn := f, kind := .deferred, roundOf := none }
 have henter : Frame.enter P f args .deferred =
   b.atR { tmps := args ++ Array.replicate (fn.ntmps - args.size) undef, defers := [] } [.code c] := by
  simp [Frame.enter, Frame.atR, hf, hb, b]
 obtain ⟨e, a', cs', w', hl, ⟨he, hcs, hq⟩, harr⟩ := h c₀ cs hu b [] rfl rfl hF hroom
 rw [← henter] at harr
 subst hcs
 have hroom' : F.room (({ c₀ with mode := u' } :: cs).length + 1 + n) := hroom
 rcases he with rfl | rfl
 ·obtain ⟨w2, ⟨v, g1, g2⟩, g3⟩ := yln (F := F) (n := n) a'.defers w' { b.atR a' [] with mode := .returning } ({ c₀ with mode := u' } :: cs) rfl rfl hF hroom' hq
  exact ⟨.returned v, u', w2, _, ⟨rfl, g2⟩, StepsIn.trans (StepsIn.trans harr (.one (fenced_calm (fr := b.atR a' []) hF hroom' rfl) (stepR_end rfl))) g3, rfl, rfl, rfl, rfl, fn, hf, g1⟩
 ·obtain ⟨todo, hs⟩ := harr.1 rfl
  obtain ⟨w2, ⟨v, g1, g2⟩, g3⟩ := yln (F := F) (n := n) a'.defers w' { b.atR a' todo with mode := .returning } ({ c₀ with mode := u' } :: cs) rfl rfl hF hroom' hq
  exact ⟨.returned v, u', w2, _, ⟨rfl, g2⟩, StepsIn.trans hs g3, rfl, rfl, rfl, rfl, fn, hf, g1⟩
inductive Rec : FrameMode → Value → FrameMode → Prop
 | idle : Rec .returning .nilIface .returning
 | caught (v : Value) (older : List PanicEntry) : Rec (.panicking ({ v := v, recovered := false } :: older)) v (.panicking ({ v := v, recovered := true } :: older))
theorem wpSIn_recover {F : Fence} {n : Nat} {P : Program} {Q : Exit → Act → List Frame → World → Prop} {id : Nat} {o : Oper} {l1 : List Oper} {ats : Array TypeId} {a : Act} {c₀ : Frame} {cs : List Frame} {w : World} {u u' : FrameMode} {v : Value} (hro : F.round = none) (hop : o.op = .call { callee := .builtin .recover, args := #[], argTypes := ats }) (hgd : o.guard = none) (hu : c₀.mode = u) (hrec : Rec u v u')
  (h : wpOpsIn F n P (o :: l1).toArray (fun e a' w' => Q e a' ({ c₀ with mode := u' } :: cs) w') (List.range' 1 l1.length) (a.put o.dst v) w) : (Code.region id (o :: l1).toArray false).wpSIn F n P Q a (c₀ :: cs) w := by
 intro b k hb hr hF hroom
 have hsp : List.range (o :: l1).toArray.size = 0 :: List.range' 1 l1.length := by
  rw [List.size_toArray, List.range_eq_range', List.length_cons, List.range'_succ]
 have hg0 : (o :: l1).toArray[0]? = some o := by simp
 have hw : Region.wanted o (yielded (o :: l1).toArray a.tmps) = true := by simp [Region.wanted, hgd]
 have hrun : (execOp a.eval o).run P w = .ok .recover w := by
  unfold execOp
  simp only [hop, resolve, Sem.run_bind, Sem.run_pure, Result.andThen_ok, invoke, builtin]
 have habout : ∀ f, o.about P w a.eval = some f → F.fn f := by
  intro f hf
  simp [Oper.about, hop, resolve, Target.leads] at hf
 have h0 : (lone (b.atR a (.inRegion (o :: l1).toArray (0 :: List.range' 1 l1.length) :: k)) (c₀ :: cs) w).fenced P F := fenced_oper hF hroom hg0 habout
 have hg := stepGR_op (P := P) (b := b) (k := k) (cs := c₀ :: cs) (w := w) (rest := List.range' 1 l1.length) hg0 hw
 rw [hr, Oper.semAt_none] at hg
 have hfin : ∀ v, (b.atR a (.inRegion (o :: l1).toArray (0 :: List.range' 1 l1.length) :: k)).finish v = b.atR (a.put o.dst v) (.inRegion (o :: l1).toArray (List.range' 1 l1.length) :: k) := by
  intro v; rw [Frame.finish_atR, hg0]; rfl
 have hk : (b.atR a (.inRegion (o :: l1).toArray (0 :: List.range' 1 l1.length) :: k)).kind = .deferred := hb
 have htr := tryRecover_deferred hk (c₀ :: cs)
 have hroom' : F.room (({ c₀ with mode := u' } :: cs).length + 1 + n) := hroom
 obtain ⟨e, a', w', hq, harr⟩ := wp_opsIn _ _ w h b k ({ c₀ with mode := u' } :: cs) (hr.trans hro.symm) hF hroom'
 refine ⟨e, a', { c₀ with mode := u' } :: cs, w', rfl, hq, .of_steps (.head (fenced_calm hF hroom rfl) stepR_region ?_) harr⟩
 rw [hsp]
 refine .one h0 (step_lone_go ?_)
 rw [hg, ← hfin]
 cases hrec with
 | idle =>
  have hrc : recoverD (c₀ :: cs) = none := by simp [recoverD, hu]
  have hc : ({ c₀ with mode := .returning } : Frame) = c₀ := by rw [← hu]
  rw [hc]
  simp only [Frame.atR, hr] at htr ⊢
  simp [stepG.apply, hrun, htr, hrc]
 | caught v older =>
  have hrc : recoverD (c₀ :: cs) = some (v, { c₀ with mode := .panicking ({ v := v, recovered := true } :: older) } :: cs) := by simp [recoverD, hu]
  simp only [Frame.atR, hr] at htr ⊢
  simp [stepG.apply, hrun, htr, hrc]
theorem conKD_recover {P : Program} {T : Nat → Option Ty} (hT : TOK P T) {f : FuncId} {fn : Func} {id d : Nat} {o : Oper} {l1 : List Oper} {y : Code} {lf : Oper → Bool} {ats : Array TypeId} {N : Nat} {rs : List ResultVar} {args : List AV} {hs hs' : Nat → Option LObj} {r : AV} {u u' : FrameMode} {v : Value} (hf : P.funcs[f]? = some fn) (hb : fn.body = some (.seq (.region id (o :: l1).toArray false) y)) (hN : fn.ntmps = N) (hrs : fn.results = rs.toArray) (hlen : (Nat.ble args.length N && Nat.ble N 1000000) = true)
  (hcl : ∀ id o, hs' id = some o → isC o = true → N ≤ id ∧ ∃ o', hs id = some o' ∧ isC o' = true) (hop : o.op = .call { callee := .builtin .recover, args := #[], argTypes := ats }) (hgd : o.guard = none) (hdst : o.dst = some d) (hd : d < N) (hnd : yhr l1 = true) (hrec : Rec u v u')
  (h : Lex P N (o :: l1).toArray lf (A P N y (zpc T rs r hs')) l1 ⟨look ((d, .v v) :: yid 0 args), hs⟩) : ztq (KD P f u u') args hs r hs' := by
 refine ⟨fun id o hx hc => (hcl id o hx hc).2, fun ok0 lv w us hi hus => callsDIn_of_wpSIn_marks hf hb trivial fun c₀ cs hu => ?_⟩
 have hsim := zpu hN hlen hi hus (n := fn.ntmps)
 refine wpSIn_seq (wpSIn_recover rfl hop hgd hu hrec ?_)
 have hput : Sim (bM w lv) ok0 N ⟨look ((d, .v v) :: yid 0 args), hs⟩ lv (({ tmps := us.toArray ++ Array.replicate (fn.ntmps - us.toArray.size) undef, defers := [] } : Act).put o.dst v) w := by
  have := hsim.put (d := o.dst) (r := .v v) (u := v) (fun x hx => by rw [hdst] at hx; cases hx; exact hd) hsim.inv (Below.refl _ _) (.v _)
  rw [hdst] at this ⊢
  rw [← yhe]
  exact this
 have := zbc (B := bM w lv) (ok0 := ok0) (n := 0) (rest := []) (Q' := fun e a' w' => Exit.thenS (y.wpSIn Fence.wide 0 P (fun e a cs' w' => (e = .normal ∨ e = .ret) ∧ cs' = { c₀ with mode := u' } :: cs ∧ ysb P (fun w2 => ∃ v, (results fn a.tmps).run P w2 = .ok v w2 ∧ ∃ u lv', Ending.returned v = .returned u ∧ Rel (ybt (yga w lv) ok0 lv' w2) w2 lv' r u ∧ Inv (yga w lv) ok0 hs' lv' w2 ∧ ∀ id o, hs' id = some o → isC o = true → ∃ b n n', lv id = some (some b, n) ∧ lv' id = some (some b, n')) a.defers w'))
  (fun e a cs' w' => (e = .normal ∨ e = .ret) ∧ cs' = { c₀ with mode := u' } :: cs ∧ ysb P (fun w2 => ∃ v, (results fn a.tmps).run P w2 = .ok v w2 ∧ ∃ u lv', Ending.returned v = .returned u ∧ Rel (ybt (yga w lv) ok0 lv' w2) w2 lv' r u ∧ Inv (yga w lv) ok0 hs' lv' w2 ∧ ∀ id o, hs' id = some o → isC o = true → ∃ b n n', lv id = some (some b, n) ∧ lv' id = some (some b, n')) a.defers w') e a' ({ c₀ with mode := u' } :: cs) w') (fun s1 lv1 a1 w1 hq hs1 => ?_) h hnd 1 (fun j o' ho' => by rw [Nat.add_comm]; simpa using ho') lv _ w hput
 ·rw [List.append_nil] at this
  exact this
 ·show y.wpSIn _ _ _ _ _ _ _
  refine wpSIn_of_wpIn rfl ?_
  refine wpIn_mono (hq (bM w lv) ok0 lv1 a1 w1 hs1) fun e a' w' ⟨s', lv', hq2, hs2⟩ => ?_
  cases e with
  | normal => obtain ⟨x, hx, h1, h2⟩ := hq2; exact ⟨.inl rfl, rfl, yuh (B := bM w lv) (tm := a'.tmps) rfl (fun a2 w2 ht hs3 => by have := ztx hT hrs hcl hi hs3 hx h1 h2 (fn := fn); rwa [ht] at this) _ a' w' rfl rfl hs2⟩
  | ret => obtain ⟨x, hx, h1, h2⟩ := hq2; exact ⟨.inr rfl, rfl, yuh (B := bM w lv) (tm := a'.tmps) rfl (fun a2 w2 ht hs3 => by have := ztx hT hrs hcl hi hs3 hx h1 h2 (fn := fn); rwa [ht] at this) _ a' w' rfl rfl hs2⟩
  | _ => exact hq2.elim
section
variable {P : Program} {N : Nat}
end
theorem ytc {ids : List Nat} : ∀ {x : AV}, ybc x = true → ygz ids x = true
 | .v _, _ => rfl
 | .any, _ => rfl
 | .one, _ => rfl
 | .sl _ _, _ => rfl
 | .dp _ _, _ => rfl
 | .mv _, _ => rfl
 | .agg cs, h => rows (cs := cs) h
 | .tup cs, h => rows (cs := cs) h
 | .fn _ cs, h => rows (cs := cs) h
 | .fm _ cs, h => rows (cs := cs) h
 where rows : ∀ {cs : List AV}, ybc.pureL cs = true → ygz.onlyL ids cs = true
 | [], _ => rfl
 | c :: cs, h => by
  simp only [ybc.pureL, Bool.and_eq_true] at h
  simp only [ygz.onlyL, ytc h.1, rows h.2, Bool.and_self]
theorem yze : ∀ (x : AV), ygc (fun i => i) x = x
 | .v _ => rfl
 | .any => rfl
 | .one => rfl
 | .sl _ _ => rfl
 | .dp _ _ => rfl
 | .mv _ => rfl
 | .lp _ _ => rfl
 | .ls _ _ _ => rfl
 | .mp _ => rfl
 | .agg cs => by simp only [ygc, rows cs]
 | .tup cs => by simp only [ygc, rows cs]
 | .fn _ cs => by simp only [ygc, rows cs]
 | .fm _ cs => by simp only [ygc, rows cs]
 where rows : ∀ (cs : List AV), ygc.renL (fun i => i) cs = cs
 | [] => rfl
 | c :: cs => by simp only [ygc.renL, yze c, rows cs]
theorem znj (o : LObj) : yzf (fun i => i) o = o := by cases o <;> simp only [yzf, yze.rows]
def ygb (hs : List (Nat × Option LObj)) : List Nat := hs.map (·.1)
theorem yhz {hs : List (Nat × Option LObj)} : ∀ {id : Nat}, (yaf hs id).isSome → id ∈ ygb hs := by
 induction hs with
 | nil => intro id h; cases h
 | cons x hs ih =>
  intro id h
  obtain ⟨k, o⟩ := x
  simp only [yaf] at h
  cases hb : Nat.beq id k with
  | true => simp [ygb, Nat.eq_of_beq_eq_true hb]
  | false => rw [hb] at h; simp only at h; exact List.mem_cons_of_mem _ (ih h)
theorem hlook_out {hs : List (Nat × Option LObj)} {id : Nat} (h : id ∉ ygb hs) : yaf hs id = none := by
 cases hq : yaf hs id with
 | none => rfl
 | some o => exact absurd (yhz (by rw [hq]; rfl)) h
theorem ynp {f g : List (Nat × Option LObj)} {id : Nat} (h : id ∉ ygb f) : yaf (f ++ g) id = yaf g id := by
 induction f with
 | nil => rfl
 | cons x f ih =>
  obtain ⟨k, o⟩ := x
  simp only [ygb, List.map_cons, List.mem_cons, not_or] at h
  simp only [List.cons_append, yaf]
  cases hb : Nat.beq id k with
  | true => exact absurd (Nat.eq_of_beq_eq_true hb) h.1
  | false => exact ih h.2
theorem zid {f g : List (Nat × Option LObj)} {id : Nat} (h : id ∉ ygb g) : yaf (f ++ g) id = yaf f id := by
 induction f with
 | nil => exact hlook_out h
 | cons x f ih =>
  obtain ⟨k, o⟩ := x
  simp only [List.cons_append, yaf]
  cases hb : Nat.beq id k with
  | true => rfl
  | false => exact ih
section
variable {P : Program} {N : Nat} {ops : Array Oper} {lf : Oper → Bool} {Q : SS → Prop} {t t' : List (Nat × AV)} {pre hs hs' : List (Nat × Option LObj)} {rest : List Oper} {d : Nat} {ty : TypeId} {pos : String} {af : Array Edge} {gd : Option (Nat × Bool)}
structure Ahead (pre hs : List (Nat × Option LObj)) : Prop where
 keys : ∀ i ∈ ygb hs, i ∉ ygb pre
 ment : ∀ j ob, yaf pre j = some ob → ∀ i ∈ ygb hs, ygr i ob = false
theorem zlm {g : Operand} {args : List Operand} {ats : Array TypeId} {f : FuncId} {caps xs : List AV} {r : AV} (hc : yhb P f (xs ++ caps) (yaf hs) r (yaf hs')) (hpr : ybc r = true) (hg : zlj (evF (look t) g) f caps args) (hx : evL (evF (look t)) args = some xs) (ha : Ahead pre (hs ++ hs')) (hro : ∀ id o, yaf hs' id = some o → ywf (ygb (hs ++ hs')) o = true)
  (ht : ∀ x y, look t' x = some y → look t x = some y ∧ ∀ i ∈ ygb (hs ++ hs'), ment i y = false) (hl : lf ⟨some d, .call { callee := .value g, args := args.toArray, argTypes := ats }, ty, pos, af, gd⟩ = true) (hw : yan ops (look t) ⟨some d, .call { callee := .value g, args := args.toArray, argTypes := ats }, ty, pos, af, gd⟩ = some true) (hd : Nat.blt d N = true)
  (k : Lex P N ops lf Q rest (S ((d, r) :: t') (pre ++ hs'))) : Lex P N ops lf Q (⟨some d, .call { callee := .value g, args := args.toArray, argTypes := ats }, ty, pos, af, gd⟩ :: rest) (S t (pre ++ hs)) := by
 refine ykn hl hw ?_ k
 have hk1 : ∀ i, i ∈ ygb hs → i ∈ ygb (hs ++ hs') := fun i hi => by simp only [ygb, List.map_append, List.mem_append] at hi ⊢; exact .inl hi
 have hk2 : ∀ i, i ∈ ygb hs' → i ∈ ygb (hs ++ hs') := fun i hi => by simp only [ygb, List.map_append, List.mem_append] at hi ⊢; exact .inr hi
 refine yvt (σ := fun i => i) (ids := ygb (hs ++ hs')) rfl rfl (by simpa using hd) hg hx (by rw [show (ygc fun i => i) = id from funext yze]; simp) hc (fun _ _ _ _ h => h) (fun id h => hk1 id (yhz h)) (fun id h => hk2 id (yhz h)) (fun id o ho => ?_) (ytc hpr) hro (fun x y hy => ?_) (fun i hi => ?_) (fun j ob' hj hob => ?_)
 ·show yaf (pre ++ hs) id = _
  rw [ynp (ha.keys id (hk1 id (yhz (by rw [ho]; rfl)))), ho, znj]
 ·simp only [S, look] at hy
  cases hb : Nat.beq x d with
  | true => rw [hb] at hy; simp only [Option.some.injEq] at hy; exact .inl ⟨Nat.eq_of_beq_eq_true hb, by rw [yze]; exact hy.symm⟩
  | false =>
   rw [hb] at hy
   simp only at hy
   obtain ⟨h1, h2⟩ := ht x y hy
   exact .inr ⟨fun e => (by subst e; rw [Nat.beq_refl] at hb; cases hb), .inr ⟨h1, .inl h2⟩⟩
 ·show yaf (pre ++ hs') i = _
  rw [ynp (ha.keys i hi)]
  cases yaf hs' i <;> simp [znj]
 ·have hob : yaf (pre ++ hs') j = some ob' := hob
  rw [zid fun hm => hj j (hk2 j hm) rfl] at hob
  refine ⟨fun i hi => ha.ment j ob' hob i hi, ob', ?_, .inl rfl⟩
  show yaf (pre ++ hs) j = _
  rw [zid fun hm => hj j (hk1 j hm) rfl]
  exact hob
theorem L_callI {g : Operand} {args : List Operand} {ats : Array TypeId} {f : FuncId} {caps xs : List AV} {r : AV} (hc : yhb P f (xs ++ caps) (yaf hs) r (yaf hs')) (hpr : ybc r = true) (hg : evF (look t) g = some (.fn f caps)) (hx : evL (evF (look t)) args = some xs) (ha : Ahead pre (hs ++ hs')) (hro : ∀ id o, yaf hs' id = some o → ywf (ygb (hs ++ hs')) o = true)
  (ht : ∀ x y, look t' x = some y → look t x = some y ∧ ∀ i ∈ ygb (hs ++ hs'), ment i y = false) (hl : lf ⟨some d, .call { callee := .value g, args := args.toArray, argTypes := ats }, ty, pos, af, gd⟩ = true) (hw : yan ops (look t) ⟨some d, .call { callee := .value g, args := args.toArray, argTypes := ats }, ty, pos, af, gd⟩ = some true) (hd : Nat.blt d N = true)
  (k : Lex P N ops lf Q rest (S ((d, r) :: t') (pre ++ hs'))) : Lex P N ops lf Q (⟨some d, .call { callee := .value g, args := args.toArray, argTypes := ats }, ty, pos, af, gd⟩ :: rest) (S t (pre ++ hs)) :=
 zlm hc hpr (.inl hg) hx ha hro ht hl hw hd k
theorem L_callIm {g : Operand} {ats : Array TypeId} {f : FuncId} {caps : List AV} {r : AV} (hc : yhb P f caps (yaf hs) r (yaf hs')) (hpr : ybc r = true) (hg : evF (look t) g = some (.fm f caps)) (ha : Ahead pre (hs ++ hs')) (hro : ∀ id o, yaf hs' id = some o → ywf (ygb (hs ++ hs')) o = true)
  (ht : ∀ x y, look t' x = some y → look t x = some y ∧ ∀ i ∈ ygb (hs ++ hs'), ment i y = false) (hl : lf ⟨some d, .call { callee := .value g, args := #[], argTypes := ats }, ty, pos, af, gd⟩ = true) (hw : yan ops (look t) ⟨some d, .call { callee := .value g, args := #[], argTypes := ats }, ty, pos, af, gd⟩ = some true) (hd : Nat.blt d N = true)
  (k : Lex P N ops lf Q rest (S ((d, r) :: t') (pre ++ hs'))) : Lex P N ops lf Q (⟨some d, .call { callee := .value g, args := #[], argTypes := ats }, ty, pos, af, gd⟩ :: rest) (S t (pre ++ hs)) :=
 zlm (args := []) (xs := []) hc hpr (.inr ⟨hg, rfl⟩) rfl ha hro ht hl hw hd k
end
def zxk (f : Nat → Option AV) : List (Nat × AV) → Prop
 | [] => True
 | (x, y) :: t => f x = some y ∧ zxk f t
theorem yoc {f : Nat → Option AV} : ∀ {t : List (Nat × AV)}, zxk f t → ∀ x y, look t x = some y → f x = some y
 | [], _, x, y, h => by simp [look] at h
 | (a, z) :: t, hs, x, y, h => by
  simp only [look] at h
  cases hb : Nat.beq x a with
  | true => rw [hb] at h; simp only [Option.some.injEq] at h; subst h; rw [Nat.eq_of_beq_eq_true hb]; exact hs.1
  | false => rw [hb] at h; exact yoc hs.2 x y h
def zwz (t : List (Nat × AV)) : Nat → List AV → Prop
 | _, [] => True
 | i, x :: l => look t (1000000 + i) = some x ∧ zwz t (i + 1) l
theorem zoa {t : List (Nat × AV)} : ∀ {l : List AV} {k i : Nat} {x : AV}, zwz t k l → l[i]? = some x → look t (1000000 + (k + i)) = some x
 | [], k, i, x, h, hx => by simp at hx
 | y :: l, k, 0, x, h, hx => by simp only [List.getElem?_cons_zero, Option.some.injEq] at hx; subst hx; exact h.1
 | y :: l, k, i + 1, x, h, hx => by have := zoa h.2 (i := i) (by simpa using hx); rwa [show k + 1 + i = k + (i + 1) by omega] at this
theorem ynl {P : Program} {T : Nat → Option Ty} {t : List (Nat × AV)} {h : List (Nat × Option LObj)} (sg : List (Nat × Nat)) {rs : List ResultVar} {r : AV} {hs' : Nat → Option LObj} {g : FuncId} {n : Nat} {e : Exit} {u u' : FrameMode} {args0 : List AV} {hm hm' h' : List (Nat × Option LObj)} {v x : AV} (hmode : zmz e = some u) (hset : settle u' = .returning) (hn : args0.length = n) (ha : zwz t 0 (args0.map (ygc (yey sg)))) (hc : ztq (KD P g u u') args0 (yaf hm) v (yaf hm'))
  (hk : yfv (ybv sg) = true) (hv : yfv (ycv sg) = true) (hd1 : ytv (ybv sg) hm = true) (hd2 : ytv (ybv sg) hm' = true) (hsub : zdd h (zot sg hm)) (ho : ymo (ybv sg) hm' = true) (hh : ∀ j ob', j ∉ ycv sg → yaf h' j = some ob' → (∀ i ∈ ycv sg, ygr i ob' = false) ∧ ∃ ob, yaf h j = some ob ∧ yog ob ob')
  (hx : yym T (S (yhd sg hm' (zrp t)) (ylz sg hm' sg ++ h')) rs = some x) (hwk : Wk x r) (hend : ∀ id o, hs' id = some o → yaf (ylz sg hm' sg ++ h') id = some o) : zun P T rs r hs' (some (g, n)) e (S t h) := by
 refine ⟨u, u', args0, yaf hm, v, yaf hm', yey sg, ybv sg, S (yhd sg hm' (zrp t)) (ylz sg hm' sg ++ h'), hmode, hset, hn, fun i x hx => ?_, hc, ⟨yvc hv, yhy hd1, yhy hd2, yrd hsub, ylp ho, fun x y hy => ?_, fun i hi => yyq hk hv i hi, fun j ob' hj hob => ?_⟩, fun x hge => ?_, x, hx, hwk, hend⟩
 ·have := zoa ha (i := i) (x := ygc (yey sg) x) (by simp [hx])
  rwa [Nat.zero_add] at this
 ·have hlow : ∀ z, look (zrp t) x = some z → look t x = some z := fun z hz => by
   rw [zbe] at hz
   cases hb : Nat.ble 1000000 x with
   | true => rw [hb] at hz; cases hz
   | false => rw [hb] at hz; exact hz
  rcases yjd hy with ⟨h1, z, h2⟩ | ⟨h1, h2⟩
  ·exact .inl ⟨h1, z, hlow z h2⟩
  ·exact .inr ⟨hlow y h1, ywc hk h2⟩
 ·have hjv : j ∉ ycv sg := fun hm => by
   obtain ⟨i, h1, h2⟩ := ywt hm hk
   exact hj i h1 h2
  simp only [S, yoi hjv] at hob
  obtain ⟨h1, h2⟩ := hh j ob' hjv hob
  exact ⟨fun i hi => h1 _ (yls hi), h2⟩
 ·show look (yhd sg hm' (zrp t)) x = none
  cases hq : look (yhd sg hm' (zrp t)) x with
  | none => rfl
  | some y =>
   have : ∃ z, look (zrp t) x = some z := by
    rcases yjd hq with ⟨_, z, h2⟩ | ⟨h1, _⟩
    ·exact ⟨z, h2⟩
    ·exact ⟨y, h1⟩
   obtain ⟨z, hz⟩ := this
   rw [zbe, Nat.ble_eq_true_of_le hge] at hz
   cases hz
end
section
open Go.RowKit
section
variable {P : Program} {ty : TypeId} {h : Nat → Option LObj} {ρ : Operand → Option AV}
end
theorem ywm {σ : Nat → Nat} : ∀ {x : AV}, ybc x = true → ygc σ x = x
 | .v _, _ => rfl
 | .any, _ => rfl
 | .one, _ => rfl
 | .sl _ _, _ => rfl
 | .dp _ _, _ => rfl
 | .mv _, _ => rfl
 | .agg cs, h => by simp only [ygc, rows (cs := cs) h]
 | .tup cs, h => by simp only [ygc, rows (cs := cs) h]
 | .fn _ cs, h => by simp only [ygc, rows (cs := cs) h]
 | .fm _ cs, h => by simp only [ygc, rows (cs := cs) h]
 where rows : ∀ {cs : List AV}, ybc.pureL cs = true → ygc.renL σ cs = cs
 | [], _ => rfl
 | c :: cs, h => by
  simp only [ybc.pureL, Bool.and_eq_true] at h
  simp only [ygc.renL, ywm h.1, rows h.2]
section
variable {P : Program} {N : Nat} {ops : Array Oper} {lf : Oper → Bool} {Q : SS → Prop} {t : List (Nat × AV)} {h : List (Nat × Option LObj)} {rest : List Oper} {d : Nat} {ty : TypeId} {pos : String} {af : Array Edge} {gd : Option (Nat × Bool)}
end
end
section
open Go.RowKit
abbrev Tm := Int × Int
def ar (op : Int) : Int := if op < 1 ∨ 43 < op then -1 else if op ≤ 17 then 0 else if op ≤ 29 then 1 else if op ≤ 42 then 2 else 3
def ymb (op : Int) : Bool := decide (20 ≤ op) && decide (op ≤ 29)
theorem zhh (op : Int) : -1 ≤ ar op ∧ ar op ≤ 3 := by
 unfold ar; repeat' split
 all_goals omega
inductive Ex where
 | lf (t : Tm)
 | un (t : Tm) (a : Ex)
 | bi (t : Tm) (a b : Ex)
 | tr (t : Tm) (a b c : Ex)
namespace Ex
def fl : Ex → List Tm
 | lf t => [t]
 | un t a => t :: a.fl
 | bi t a b => t :: (a.fl ++ b.fl)
 | tr t a b c => t :: (a.fl ++ (b.fl ++ c.fl))
def ok : Ex → Prop
 | lf t => ar t.1 = 0
 | un t a => ar t.1 = 1 ∧ a.ok
 | bi t a b => ar t.1 = 2 ∧ a.ok ∧ b.ok
 | tr t a b c => ar t.1 = 3 ∧ a.ok ∧ b.ok ∧ c.ok
def dp : Ex → Nat
 | lf _ => 1
 | un _ a => a.dp + 1
 | bi _ a b => max a.dp b.dp + 1
 | tr _ a b c => max a.dp (max b.dp c.dp) + 1
def ns : Ex → Nat
 | lf _ => 0
 | un t a => if ymb t.1 then a.ns + 1 else a.ns
 | bi _ a b => max a.ns b.ns
 | tr _ a b c => max a.ns (max b.ns c.ns)
theorem fl_pos (E : Ex) : 1 ≤ E.fl.length := by cases E <;> simp [fl]
end Ex
def zke : Nat → List Tm → Option Nat
 | 0, _ => some 0
 | _ + 1, [] => none
 | w + 1, t :: l => if ar t.1 < 0 then none else (zke (w + (ar t.1).toNat) l).map (· + 1)
theorem ypp (l : List Tm) : zke 0 l = some 0 := by cases l <;> rfl
theorem endN_nil (w : Nat) : zke (w + 1) [] = none := rfl
theorem zme (w : Nat) (t : Tm) (l : List Tm) (h : ar t.1 < 0) : zke (w + 1) (t :: l) = none := by simp only [zke]; rw [if_pos h]
theorem ynk (w : Nat) (t : Tm) (l : List Tm) (h : ¬ ar t.1 < 0) : zke (w + 1) (t :: l) = (zke (w + (ar t.1).toNat) l).map (· + 1) := by simp only [zke]; rw [if_neg h]
theorem zkt (E : Ex) : E.ok → ∀ (w : Nat) (r : List Tm), zke (w + 1) (E.fl ++ r) = (zke w r).map (· + E.fl.length) := by
 induction E with
 | lf t =>
  intro h w r
  have h' : ar t.1 = 0 := h
  simp only [Ex.fl, List.cons_append, List.nil_append]
  rw [ynk w t r (by omega), h']; rfl
 | un t a iha =>
  intro ⟨h, ha⟩ w r
  simp only [Ex.fl, List.cons_append]
  rw [ynk w t _ (by omega), h, show w + (1 : Int).toNat = w + 1 from rfl, iha ha, Option.map_map]
  congr 1
 | bi t a b iha ihb =>
  intro ⟨h, ha, hb⟩ w r
  simp only [Ex.fl, List.cons_append, List.append_assoc]
  rw [ynk w t _ (by omega), h, show w + (2 : Int).toNat = (w + 1) + 1 from rfl, iha ha, ihb hb, Option.map_map, Option.map_map]
  congr 1
  funext x; simp [List.length_append]; omega
 | tr t a b c iha ihb ihc =>
  intro ⟨h, ha, hb, hc⟩ w r
  simp only [Ex.fl, List.cons_append, List.append_assoc]
  rw [ynk w t _ (by omega), h, show w + (3 : Int).toNat = ((w + 1) + 1) + 1 from rfl, iha ha, ihb hb, ihc hc, Option.map_map, Option.map_map, Option.map_map]
  congr 1
  funext x; simp [List.length_append]; omega
def yfd : List Tm → Option (List Ex)
 | [] => some []
 | t :: l =>
  match yfd l with
  | none => none
  | some F =>
   if ar t.1 = 0 then some (.lf t :: F)
   else if ar t.1 = 1 then (match F with | a :: F => some (.un t a :: F) | _ => none)
   else if ar t.1 = 2 then (match F with | a :: b :: F => some (.bi t a b :: F) | _ => none)
   else if ar t.1 = 3 then (match F with | a :: b :: c :: F => some (.tr t a b c :: F) | _ => none)
   else none
theorem yuc (E : Ex) : E.ok → ∀ (r : List Tm) (F : List Ex), yfd r = some F → yfd (E.fl ++ r) = some (E :: F) := by
 induction E with
 | lf t => intro h r F hr; have h' : ar t.1 = 0 := h; simp [Ex.fl, yfd, hr, h']
 | un t a iha => intro ⟨h, ha⟩ r F hr; simp [Ex.fl, yfd, iha ha r F hr, h]
 | bi t a b iha ihb => intro ⟨h, ha, hb⟩ r F hr; simp [Ex.fl, yfd, iha ha _ _ (ihb hb r F hr), h]
 | tr t a b c iha ihb ihc => intro ⟨h, ha, hb, hc⟩ r F hr; simp [Ex.fl, yfd, iha ha _ _ (ihb hb _ _ (ihc hc r F hr)), h]
def ysn (F : List Ex) : List Tm := F.flatMap Ex.fl
theorem forest_inv (l : List Tm) : ∀ F, yfd l = some F → (∀ E ∈ F, E.ok) ∧ ysn F = l := by
 induction l with
 | nil => intro F h; simp [yfd] at h; subst h; simp [ysn]
 | cons t l ih =>
  intro F h
  simp only [yfd] at h
  cases hl : yfd l with
  | none => rw [hl] at h; cases h
  | some G =>
   obtain ⟨h1, h2⟩ := ih G hl
   rw [hl] at h
   simp only at h
   by_cases a0 : ar t.1 = 0
   ·rw [if_pos a0] at h; cases h
    refine ⟨fun E hE => ?_, by simp only [ysn, List.flatMap_cons, Ex.fl] at *; rw [h2]; rfl⟩
    cases hE with
    | head => exact a0
    | tail _ hE => exact h1 E hE
   rw [if_neg a0] at h
   by_cases a1 : ar t.1 = 1
   ·rw [if_pos a1] at h
    match G, h, h1, h2 with
    | a :: G, h, h1, h2 =>
     cases h
     refine ⟨fun E hE => ?_, by simp only [ysn, List.flatMap_cons, Ex.fl] at *; rw [← h2]; rfl⟩
     cases hE with
     | head => exact ⟨a1, h1 a (List.mem_cons_self ..)⟩
     | tail _ hE => exact h1 E (List.mem_cons_of_mem _ hE)
   rw [if_neg a1] at h
   by_cases a2 : ar t.1 = 2
   ·rw [if_pos a2] at h
    match G, h, h1, h2 with
    | a :: b :: G, h, h1, h2 =>
     cases h
     refine ⟨fun E hE => ?_, by simp only [ysn, List.flatMap_cons, Ex.fl] at *; rw [← h2]; simp⟩
     cases hE with
     | head => exact ⟨a2, h1 a (by simp), h1 b (by simp)⟩
     | tail _ hE => exact h1 E (List.mem_cons_of_mem _ (List.mem_cons_of_mem _ hE))
   rw [if_neg a2] at h
   by_cases a3 : ar t.1 = 3
   ·rw [if_pos a3] at h
    match G, h, h1, h2 with
    | a :: b :: c :: G, h, h1, h2 =>
     cases h
     refine ⟨fun E hE => ?_, by simp only [ysn, List.flatMap_cons, Ex.fl] at *; rw [← h2]; simp⟩
     cases hE with
     | head => exact ⟨a3, h1 a (by simp), h1 b (by simp), h1 c (by simp)⟩
     | tail _ hE => exact h1 E (List.mem_cons_of_mem _ (List.mem_cons_of_mem _ (List.mem_cons_of_mem _ hE)))
   rw [if_neg a3] at h; cases h
def yfx (l : List Tm) : Option Ex := match yfd l with | some [E] => some E | _ => none
theorem parse_fl (E : Ex) (h : E.ok) : yfx E.fl = some E := by
 have := yuc E h [] [] rfl
 rw [List.append_nil] at this
 unfold yfx; rw [this]
theorem yfy {l : List Tm} {E : Ex} (h : yfx l = some E) : E.ok ∧ E.fl = l := by
 unfold yfx at h
 split at h
 ·rename_i E' hf
  cases h
  obtain ⟨h1, h2⟩ := forest_inv l _ hf
  exact ⟨h1 E (by simp), by simpa [ysn] using h2⟩
 ·cases h
theorem endN_forest (l : List Tm) : ∀ (w n : Nat), zke w l = some n → ∃ F : List Ex, F.length = w ∧ (∀ E ∈ F, E.ok) ∧ l.take n = ysn F := by
 induction l with
 | nil => intro w n h; cases w <;> simp [zke] at h; exact ⟨[], rfl, by simp, by simp [ysn]⟩
 | cons t l ih =>
  intro w n h
  cases w with
  | zero => rw [ypp] at h; cases h; exact ⟨[], rfl, by simp, by simp [ysn]⟩
  | succ w =>
   by_cases hb : ar t.1 < 0
   ·rw [zme w t l hb] at h; cases h
   ·rw [ynk w t l hb, Option.map_eq_some_iff] at h
    obtain ⟨m, hm, rfl⟩ := h
    obtain ⟨F, h1, h2, h3⟩ := ih _ _ hm
    rw [List.take_succ_cons, h3]
    have hk := zhh t.1
    have cases4 : ar t.1 = 0 ∨ ar t.1 = 1 ∨ ar t.1 = 2 ∨ ar t.1 = 3 := by omega
    rcases cases4 with hk | hk | hk | hk <;> rw [hk] at h1
    ·exact ⟨.lf t :: F, by simp at *; omega, fun E hE => by
      cases hE with
      | head => exact hk
      | tail _ hE => exact h2 E hE, by simp [ysn, Ex.fl]⟩
    ·match F, h1, h2 with
     | a :: F, h1, h2 => exact ⟨.un t a :: F, by simp at *; omega, fun E hE => by
       cases hE with
       | head => exact ⟨hk, h2 a (by simp)⟩
       | tail _ hE => exact h2 E (List.mem_cons_of_mem _ hE), by simp [ysn, Ex.fl]⟩
     | [], h1, _ => simp at h1
    ·match F, h1, h2 with
     | a :: b :: F, h1, h2 => exact ⟨.bi t a b :: F, by simp at *; omega, fun E hE => by
       cases hE with
       | head => exact ⟨hk, h2 a (by simp), h2 b (by simp)⟩
       | tail _ hE => exact h2 E (List.mem_cons_of_mem _ (List.mem_cons_of_mem _ hE)), by simp [ysn, Ex.fl]⟩
     | [a], h1, _ => simp at h1
     | [], h1, _ => simp at h1
    ·match F, h1, h2 with
     | a :: b :: c :: F, h1, h2 => exact ⟨.tr t a b c :: F, by simp at *; omega, fun E hE => by
       cases hE with
       | head => exact ⟨hk, h2 a (by simp), h2 b (by simp), h2 c (by simp)⟩
       | tail _ hE => exact h2 E (List.mem_cons_of_mem _ (List.mem_cons_of_mem _ (List.mem_cons_of_mem _ hE))), by simp [ysn, Ex.fl]⟩
     | [a, b], h1, _ => simp at h1
     | [a], h1, _ => simp at h1
     | [], h1, _ => simp at h1
theorem parse_iff (l : List Tm) : (∃ E, yfx l = some E) ↔ zke 1 l = some l.length := by
 constructor
 ·rintro ⟨E, h⟩
  obtain ⟨h1, h2⟩ := yfy h
  have := zkt E h1 0 []
  rw [List.append_nil, h2, ypp] at this
  simpa using this
 ·intro h
  obtain ⟨F, h1, h2, h3⟩ := endN_forest l 1 l.length h
  match F, h1, h2, h3 with
  | [E], _, h2, h3 =>
   refine ⟨E, ?_⟩
   rw [List.take_length] at h3
   rw [h3, ysn, List.flatMap_cons, List.flatMap_nil, List.append_nil]
   exact parse_fl E (h2 E (by simp))
def yhl (vars : Int) (t : Tm) : Bool :=
 if t.1 = 1 then decide (0 ≤ t.2) && decide (t.2 ≤ 1073741824) else if t.1 = 5 ∨ t.1 = 12 then decide (0 ≤ t.2) && decide (t.2 < vars) else decide (t.2 = 0)
def yco (l : List Tm) (vars : Int) : Bool :=
 match yfx l with
 | none => false
 | some E => decide (l.length ≤ 200) && (l.all (yhl vars) && (decide (E.dp ≤ 24) && decide (E.ns ≤ 2)))
end
section
open Go.RowKit
abbrev Lk := Int × Int
structure GraphD where
 ids : List Int
 ports : List (List Lk)
def GraphD.n (g : GraphD) : Nat := g.ports.length
end
section
theorem zco {α : Type} {l : List α} {k : Nat} {x : α} (hx : l[k]? = some x) : l.take (k + 1) = l.take k ++ [x] := by
 rw [List.take_add_one, hx]; rfl
def bits (l : List Int) : List Bool := (List.range 256).map fun i : Nat => decide ((i : Int) ∈ l)
end
section
end
section
abbrev Bs := List UInt8
def ba (l : Bs) : ByteArray := ⟨l.toArray⟩
def bl (s : ByteArray) : Bs := s.data.toList
theorem yde (l : Bs) : bl (ba l) = l := by simp [bl, ba]
theorem ymx (s : ByteArray) : ba (bl s) = s := Lib.mk_data s
theorem zdi (s : ByteArray) : (bl s).length = s.size := (Lib.size_eq s).symm
theorem yar (l : Bs) : (ba l).size = l.length := by simp [ba, ByteArray.size]
end
section
structure PW where
 w : Bs
 k : Nat
 v : Nat
def ypc : List Bs → Bs → Option Nat
 | [], _ => none
 | x :: l, w => if x = w then some 0 else (ypc l w).map (· + 1)
def yyk (first : Int) (l : List Bs) (w : Bs) : Int :=
 if w = [] then 0 else match ypc l w with
  | some i => first + i
  | none => 0
def zkn : List Bs := [[42], [47], [37], [43], [45], [61, 61], [33, 61], [60], [60, 61], [62], [62, 61], [38, 38], [124, 124]]
def zkd : List Bs := [[97, 108, 108], [115, 111, 109, 101], [99, 111, 117, 110, 116], [102, 105, 114, 115, 116], [109, 105, 110], [109, 97, 120], [115, 117, 109], [109, 101, 120], [115, 101, 99, 111, 110, 100], [104, 101, 97, 100]]
def ymh : List Bs := [[116, 114, 117, 101], [102, 97, 108, 115, 101], [110, 111, 110, 101], [], [110], [105, 100, 115], [105, 100], [100, 101, 103], [114, 111, 111, 116]]
def ynn : List Bs := [[105, 100], [100, 101, 103], [114, 111, 111, 116], [119, 101, 105, 103, 104, 116], [98, 97, 99, 107]]
def ymf (w : Bs) : Int := yyk 30 zkn w
def zkl (w : Bs) : Int := yyk 20 zkd w
def yiy (w : Bs) : Int := yyk 2 ymh w
def yko (w : Bs) : Int := yyk 13 ynn w
def yfg (op : Int) : Nat :=
 if op = 43 then 0 else if op = 42 then 1 else if op = 41 then 2 else if 35 ≤ op ∧ op ≤ 40 then 3 else if op = 33 ∨ op = 34 then 4 else if 30 ≤ op ∧ op ≤ 32 then 5 else if op = 18 ∨ op = 19 then 6 else 7
def ybd : List PW → Bs
 | [] => []
 | t :: _ => t.w
inductive Res where
 | ok (e : List Tm) (rest : List PW)
 | bad (err : Int) (rest : List PW)
def zol (x : Option Res) (k : List Tm → List PW → Option Res) : Option Res :=
 match x with
 | some (.ok e r) => k e r
 | some (.bad c r) => some (.bad c r)
 | none => none
def yxb (w : Bs) (ts : List PW) (k : List PW → Option Res) : Option Res :=
 match ts with
 | [] => some (.bad 4 [])
 | t :: r => if t.w = w then k r else some (.bad 4 (t :: r))
def yzp (nm : Bs → Bool) (names : List Bs) (op : Int) : List PW → Res
 | [] => .bad 4 []
 | t :: r => if nm t.w = true then (match ypc names t.w with
  | some x => .ok [(op, (x : Int))] r
  | none => .bad 5 (t :: r)) else .bad 4 (t :: r)
def ypd (nm : Bs → Bool) (names : List Bs) (ts : List PW) : Res :=
 if ybd ts = [46] then (if yko (ybd ts.tail) = 0 then yzp nm names 12 ts.tail else .ok [(yko (ybd ts.tail), 0)] ts.tail.tail) else .ok [(11, 0)] ts
inductive NT where
 | choice
 | bin (l : Nat)
 | tail (l : Nat) (left : List Tm)
 | unary
 | prim
def PP (nm : Bs → Bool) (names : List Bs) : Nat → NT → List PW → Option Res
 | 0, _, _ => none
 | f + 1, .choice, ts => zol (PP nm names f (.bin 1) ts) fun c r =>
   if ybd r = [63] then zol (PP nm names f .choice r.tail) fun y r2 => yxb [58] r2 fun r3 => zol (PP nm names f .choice r3) fun z r4 => some (.ok ((43, 0) :: (c ++ (y ++ z))) r4)
   else some (.ok c r)
 | f + 1, .bin l, ts => if 6 ≤ l then PP nm names f .unary ts else zol (PP nm names f (.bin (l + 1)) ts) fun left r => PP nm names f (.tail l left) r
 | f + 1, .tail l left, ts =>
   if ymf (ybd ts) = 0 ∨ yfg (ymf (ybd ts)) ≠ l then some (.ok left ts)
   else zol (PP nm names f (.bin (l + 1)) ts.tail) fun right r => if l = 3 then some (.ok ((ymf (ybd ts), 0) :: (left ++ right)) r) else PP nm names f (.tail l ((ymf (ybd ts), 0) :: (left ++ right))) r
 | f + 1, .unary, ts =>
   if ybd ts = [45] then zol (PP nm names f .unary ts.tail) fun x r => some (.ok ((18, 0) :: x) r)
   else if ybd ts = [33] then zol (PP nm names f .unary ts.tail) fun x r => some (.ok ((19, 0) :: x) r)
   else PP nm names f .prim ts
 | f + 1, .prim, ts => match ts with
   | [] => some (.bad 4 [])
   | t :: r =>
    if t.k = 2 then some (.ok [(1, (t.v : Int))] r)
    else if t.w = [40] then zol (PP nm names f .choice r) fun x r2 => yxb [41] r2 fun r3 => some (.ok x r3)
    else if t.w = [113] then some (ypd nm names r)
    else if yiy t.w ≠ 0 then some (.ok [(yiy t.w, 0)] r)
    else if zkl t.w ≠ 0 then yxb [40] r fun r2 => zol (PP nm names f .choice r2) fun x r3 => yxb [41] r3 fun r4 => some (.ok ((zkl t.w, 0) :: x) r4)
    else some (yzp nm names 5 (t :: r))
variable {nm : Bs → Bool} {names : List Bs}
theorem ylh {e : List Tm} {r : List PW} {k : List Tm → List PW → Option Res} : zol (some (.ok e r)) k = k e r := rfl
theorem ydg {x : Option Res} {k : List Tm → List PW → Option Res} {res : Res} (h : zol x k = some res) : (∃ e r, x = some (.ok e r) ∧ k e r = some res) ∨ ∃ c r, x = some (.bad c r) ∧ res = .bad c r := by
 cases x with
 | none => cases h
 | some y => cases y with
  | ok e r => exact .inl ⟨e, r, rfl, h⟩
  | bad c r => exact .inr ⟨c, r, rfl, (Option.some.inj h).symm⟩
theorem yoe {w : Bs} {ts : List PW} {k : List PW → Option Res} {res : Res} (h : yxb w ts k = some res) : (∃ t r, ts = t :: r ∧ t.w = w ∧ k r = some res) ∨ (ybd ts ≠ w ∨ ts = []) ∧ res = .bad 4 ts := by
 cases ts with
 | nil => exact .inr ⟨.inr rfl, (Option.some.inj h).symm⟩
 | cons t r =>
  simp only [yxb] at h
  split at h
  ·rename_i e; exact .inl ⟨t, r, rfl, e, h⟩
  ·rename_i e; exact .inr ⟨.inl e, (Option.some.inj h).symm⟩
theorem yij {x x' : Option Res} {k k' : List Tm → List PW → Option Res} {res : Res} (hx : ∀ y, x = some y → x' = some y) (hk : ∀ e r y, k e r = some y → k' e r = some y) (h : zol x k = some res) : zol x' k' = some res := by
 rcases ydg h with ⟨e, r, h1, h2⟩ | ⟨c, r, h1, h2⟩
 ·rw [hx _ h1]; exact hk e r _ h2
 ·rw [hx _ h1, h2]; rfl
theorem zfa {w : Bs} {ts : List PW} {k k' : List PW → Option Res} {res : Res} (hk : ∀ r y, k r = some y → k' r = some y) (h : yxb w ts k = some res) : yxb w ts k' = some res := by
 cases ts with
 | nil => exact h
 | cons t r =>
  simp only [yxb] at h ⊢
  split
  ·rename_i e; rw [if_pos e] at h; exact hk _ _ h
  ·rename_i e; rw [if_neg e] at h; exact h
theorem zpg : ∀ (f : Nat) (nt : NT) (ts : List PW) (res : Res), PP nm names f nt ts = some res → PP nm names (f + 1) nt ts = some res
 | 0, nt, ts, res, h => by cases h
 | f + 1, nt, ts, res, h => by
  have ih := zpg f
  cases nt with
  | choice =>
   rw [PP] at h ⊢
   refine yij (ih _ _) (fun c r y h => ?_) h
   split
   ·rename_i e
    rw [if_pos e] at h
    exact yij (ih _ _) (fun c r y h => zfa (fun r y h => yij (ih _ _) (fun _ _ _ h => h) h) h) h
   ·rename_i e; rw [if_neg e] at h; exact h
  | bin l =>
   rw [PP] at h ⊢
   split
   ·rename_i e; rw [if_pos e] at h; exact ih _ _ _ h
   ·rename_i e; rw [if_neg e] at h; exact yij (ih _ _) (fun c r y h => ih _ _ _ h) h
  | tail l left =>
   rw [PP] at h ⊢
   split
   ·rename_i e; rw [if_pos e] at h; exact h
   ·rename_i e
    rw [if_neg e] at h
    refine yij (ih _ _) (fun c r y h => ?_) h
    split
    ·rename_i e; rw [if_pos e] at h; exact h
    ·rename_i e; rw [if_neg e] at h; exact ih _ _ _ h
  | unary =>
   rw [PP] at h ⊢
   split
   ·rename_i e; rw [if_pos e] at h; exact yij (ih _ _) (fun _ _ _ h => h) h
   ·rename_i e
    rw [if_neg e] at h
    split
    ·rename_i e; rw [if_pos e] at h; exact yij (ih _ _) (fun _ _ _ h => h) h
    ·rename_i e; rw [if_neg e] at h; exact ih _ _ _ h
  | prim =>
   cases ts with
   | nil => exact h
   | cons t r =>
    simp only [PP] at h ⊢
    split
    ·rename_i e; rw [if_pos e] at h; exact h
    ·rename_i e
     rw [if_neg e] at h
     split
     ·rename_i e; rw [if_pos e] at h; exact yij (ih _ _) (fun _ _ _ h => h) h
     ·rename_i e
      rw [if_neg e] at h
      split
      ·rename_i e; rw [if_pos e] at h; exact h
      ·rename_i e
       rw [if_neg e] at h
       split
       ·rename_i e; rw [if_pos e] at h; exact h
       ·rename_i e
        rw [if_neg e] at h
        split
        ·rename_i e; rw [if_pos e] at h; exact zfa (fun r y h => yij (ih _ _) (fun _ _ _ h => h) h) h
        ·rename_i e; rw [if_neg e] at h; exact h
theorem zki {f g : Nat} {nt : NT} {ts : List PW} {res : Res} (h : PP nm names f nt ts = some res) (hg : f ≤ g) : PP nm names g nt ts = some res := by
 obtain ⟨d, rfl⟩ := Nat.exists_eq_add_of_le hg
 clear hg
 induction d with
 | zero => exact h
 | succ d ih => exact zpg _ _ _ _ ih
def ymv (nm : Bs → Bool) (names : List Bs) (nt : NT) (ts : List PW) (res : Res) : Prop := ∃ f, PP nm names f nt ts = some res
theorem ymv.det {nt : NT} {ts : List PW} {a b : Res} (ha : ymv nm names nt ts a) (hb : ymv nm names nt ts b) : a = b := by
 obtain ⟨f, hf⟩ := ha
 obtain ⟨g, hg⟩ := hb
 have h1 := zki hf (Nat.le_max_left f g)
 rw [zki hg (Nat.le_max_right f g)] at h1
 exact (Option.some.inj h1).symm
def NT.had : NT → Nat
 | .tail _ left => left.length
 | _ => 0
def NT.isTail : NT → Bool
 | .tail _ _ => true
 | _ => false
def Sp (nt : NT) (ts : List PW) : Res → Prop
 | .ok e r => r <:+ ts ∧ e.length + r.length ≤ ts.length + nt.had ∧ (nt.isTail = false → r.length < ts.length)
 | .bad c r => r <:+ ts ∧ (c = 4 ∨ c = 5) ∧ (r = [] → c = 4)
theorem yyy {ts : List PW} {w : Bs} (h : ybd ts = w) (hw : w ≠ []) : ∃ t r, ts = t :: r ∧ t.w = w := by
 cases ts with
 | nil => exact absurd h.symm hw
 | cons t r => exact ⟨t, r, rfl, h⟩
theorem zpx {first : Int} {l : List Bs} {ts : List PW} (h : yyk first l (ybd ts) ≠ 0) : ∃ t r, ts = t :: r := by
 cases ts with
 | nil => exact absurd rfl h
 | cons t r => exact ⟨t, r, rfl⟩
theorem ztn (op : Int) (ts : List PW) : Sp .prim ts (yzp nm names op ts) := by
 cases ts with
 | nil => exact ⟨List.suffix_refl _, .inl rfl, fun _ => rfl⟩
 | cons t r =>
  simp only [yzp]
  split
  ·split
   ·exact ⟨List.suffix_cons _ _, by simp [NT.had]; omega, fun _ => by simp⟩
   ·exact ⟨List.suffix_refl _, .inr rfl, fun h => by cases h⟩
  ·exact ⟨List.suffix_refl _, .inl rfl, fun _ => rfl⟩
theorem near_sp (t : PW) (ts : List PW) : Sp .prim (t :: ts) (ypd nm names ts) := by
 unfold ypd
 split
 ·rename_i h
  obtain ⟨t1, r, rfl, _⟩ := yyy h (by simp)
  by_cases h2 : yko (ybd (t1 :: r).tail) = 0
  ·rw [if_pos h2]
   simp only [List.tail_cons]
   have := ztn (nm := nm) (names := names) 12 r
   cases hv : yzp nm names 12 r with
   | ok e r2 =>
    rw [hv] at this
    obtain ⟨h1, h2, h3⟩ := this
    exact ⟨h1.trans ((List.suffix_cons _ _).trans (List.suffix_cons _ _)), by simp only [List.length_cons, NT.had] at *; omega, fun _ => by have := h3 rfl; simp only [List.length_cons]; omega⟩
   | bad c r2 =>
    rw [hv] at this
    obtain ⟨h1, h2, h3⟩ := this
    exact ⟨h1.trans ((List.suffix_cons _ _).trans (List.suffix_cons _ _)), h2, h3⟩
  ·rw [if_neg h2]
   simp only [List.tail_cons] at h2 ⊢
   obtain ⟨t2, r2, rfl⟩ := zpx h2
   exact ⟨(List.suffix_cons _ _).trans ((List.suffix_cons _ _).trans (List.suffix_cons _ _)), by simp [NT.had]; omega, fun _ => by simp only [List.length_cons, List.tail_cons]; omega⟩
 ·exact ⟨List.suffix_cons _ _, by simp [NT.had]; omega, fun _ => by simp⟩
theorem Sp.bad_mono {nt nt' : NT} {ts us : List PW} {c : Int} {r : List PW} (h : Sp nt ts (.bad c r)) (hs : ts <:+ us) : Sp nt' us (.bad c r) := ⟨h.1.trans hs, h.2⟩
theorem zha {w : Bs} {ts us : List PW} {k : List PW → Option Res} {nt : NT} {res : Res} (h : yxb w ts k = some res) (hs : ts <:+ us) (hk : ∀ t r, ts = t :: r → k r = some res → Sp nt us res) : Sp nt us res := by
 rcases yoe h with ⟨t, r, rfl, _, h2⟩ | ⟨_, rfl⟩
 ·exact hk t r rfl h2
 ·exact ⟨hs, .inl rfl, fun _ => rfl⟩
theorem yly : ∀ (f : Nat) (nt : NT) (ts : List PW) (res : Res), PP nm names f nt ts = some res → Sp nt ts res
 | 0, nt, ts, res, h => by cases h
 | f + 1, nt, ts, res, h => by
  have ih := yly f
  cases nt with
  | choice =>
   rw [PP] at h
   rcases ydg h with ⟨c, r, h1, h⟩ | ⟨c, r, h1, rfl⟩
   ·obtain ⟨s1, s2, s3⟩ := ih _ _ _ h1
    have s3 := s3 rfl
    simp only [NT.had] at s2
    split at h
    ·rename_i hq
     obtain ⟨t, r, rfl, _⟩ := yyy hq (by simp)
     simp only [List.tail_cons, List.length_cons] at h s2 s3
     rcases ydg h with ⟨y, r2, h2, h⟩ | ⟨c, r2, h2, rfl⟩
     ·obtain ⟨u1, u2, u3⟩ := ih _ _ _ h2
      have u3 := u3 rfl
      simp only [NT.had] at u2
      refine zha h (u1.trans ((List.suffix_cons _ _).trans s1)) fun t2 r3 he hq2 => ?_
      subst he
      clear h
      have h := hq2
      simp only [List.length_cons] at u2 u3
      have hs3 := (List.suffix_cons t2 r3).trans (u1.trans ((List.suffix_cons _ _).trans s1))
      rcases ydg h with ⟨z, r4, h3, h⟩ | ⟨c, r4, h3, rfl⟩
      ·obtain ⟨v1, v2, v3⟩ := ih _ _ _ h3
       have v3 := v3 rfl
       simp only [NT.had] at v2
       obtain rfl := (Option.some.inj h).symm
       exact ⟨v1.trans hs3, by simp only [List.length_cons, List.length_append, NT.had]; omega, fun _ => by omega⟩
      ·exact (ih _ _ _ h3).bad_mono hs3
     ·exact (ih _ _ _ h2).bad_mono ((List.suffix_cons _ _).trans s1)
    ·obtain rfl := (Option.some.inj h).symm
     exact ⟨s1, by simp only [NT.had]; omega, fun _ => s3⟩
   ·exact (ih _ _ _ h1).bad_mono (List.suffix_refl _)
  | bin l =>
   rw [PP] at h
   split at h
   ·have := ih _ _ _ h
    cases res <;> exact this
   ·rcases ydg h with ⟨c, r, h1, h⟩ | ⟨c, r, h1, rfl⟩
    ·obtain ⟨s1, s2, s3⟩ := ih _ _ _ h1
     have s3 := s3 rfl
     simp only [NT.had] at s2
     have := ih _ _ _ h
     cases res with
     | ok e r2 =>
      obtain ⟨u1, u2, u3⟩ := this
      have := u1.length_le
      simp only [NT.had] at u2
      exact ⟨u1.trans s1, by simp only [NT.had]; omega, fun _ => by omega⟩
     | bad c r2 => exact this.bad_mono s1
    ·exact (ih _ _ _ h1).bad_mono (List.suffix_refl _)
  | tail l left =>
   rw [PP] at h
   split at h
   ·obtain rfl := (Option.some.inj h).symm
    exact ⟨List.suffix_refl _, by simp only [NT.had]; omega, fun h => by cases h⟩
   ·rename_i hq
    obtain ⟨t, r, rfl⟩ := zpx (fun e => hq (.inl e))
    simp only [List.tail_cons] at h
    rcases ydg h with ⟨c, r1, h1, h⟩ | ⟨c, r1, h1, rfl⟩
    ·obtain ⟨s1, s2, s3⟩ := ih _ _ _ h1
     have s3 := s3 rfl
     simp only [NT.had] at s2
     split at h
     ·obtain rfl := (Option.some.inj h).symm
      exact ⟨s1.trans (List.suffix_cons _ _), by simp only [NT.had, List.length_cons, List.length_append]; omega, fun h => by cases h⟩
     ·have := ih _ _ _ h
      cases res with
      | ok e r2 =>
       obtain ⟨u1, u2, u3⟩ := this
       simp only [NT.had, List.length_cons, List.length_append] at u2
       exact ⟨u1.trans (s1.trans (List.suffix_cons _ _)), by simp only [NT.had, List.length_cons]; omega, fun h => by cases h⟩
      | bad c r2 => exact this.bad_mono (s1.trans (List.suffix_cons _ _))
    ·exact (ih _ _ _ h1).bad_mono (List.suffix_cons _ _)
  | unary =>
   rw [PP] at h
   split at h
   ·rename_i hq
    obtain ⟨t, r, rfl, _⟩ := yyy hq (by simp)
    simp only [List.tail_cons] at h
    rcases ydg h with ⟨c, r1, h1, h⟩ | ⟨c, r1, h1, rfl⟩
    ·obtain ⟨s1, s2, s3⟩ := ih _ _ _ h1
     have s3 := s3 rfl
     simp only [NT.had] at s2
     obtain rfl := (Option.some.inj h).symm
     exact ⟨s1.trans (List.suffix_cons _ _), by simp only [NT.had, List.length_cons]; omega, fun _ => by simp only [List.length_cons]; omega⟩
    ·exact (ih _ _ _ h1).bad_mono (List.suffix_cons _ _)
   ·split at h
    ·rename_i hq
     obtain ⟨t, r, rfl, _⟩ := yyy hq (by simp)
     simp only [List.tail_cons] at h
     rcases ydg h with ⟨c, r1, h1, h⟩ | ⟨c, r1, h1, rfl⟩
     ·obtain ⟨s1, s2, s3⟩ := ih _ _ _ h1
      have s3 := s3 rfl
      simp only [NT.had] at s2
      obtain rfl := (Option.some.inj h).symm
      exact ⟨s1.trans (List.suffix_cons _ _), by simp only [NT.had, List.length_cons]; omega, fun _ => by simp only [List.length_cons]; omega⟩
     ·exact (ih _ _ _ h1).bad_mono (List.suffix_cons _ _)
    ·have := ih _ _ _ h
     cases res <;> exact this
  | prim =>
   cases ts with
   | nil =>
    obtain rfl := (Option.some.inj h).symm
    exact ⟨List.suffix_refl _, .inl rfl, fun _ => rfl⟩
   | cons t r =>
    simp only [PP] at h
    split at h
    ·obtain rfl := (Option.some.inj h).symm
     exact ⟨List.suffix_cons _ _, by simp [NT.had]; omega, fun _ => by simp⟩
    ·split at h
     ·rcases ydg h with ⟨c, r1, h1, h⟩ | ⟨c, r1, h1, rfl⟩
      ·obtain ⟨s1, s2, s3⟩ := ih _ _ _ h1
       have s3 := s3 rfl
       simp only [NT.had] at s2
       refine zha h (s1.trans (List.suffix_cons _ _)) fun t2 r3 he hq2 => ?_
       subst he
       clear h
       have h := hq2
       obtain rfl := (Option.some.inj h).symm
       simp only [List.length_cons] at s2 s3
       exact ⟨(List.suffix_cons _ _).trans (s1.trans (List.suffix_cons _ _)), by simp only [NT.had, List.length_cons]; omega, fun _ => by simp only [List.length_cons]; omega⟩
      ·exact (ih _ _ _ h1).bad_mono (List.suffix_cons _ _)
     ·split at h
      ·obtain rfl := (Option.some.inj h).symm
       exact near_sp t r
      ·split at h
       ·obtain rfl := (Option.some.inj h).symm
        exact ⟨List.suffix_cons _ _, by simp [NT.had]; omega, fun _ => by simp⟩
       ·split at h
        ·refine zha h (List.suffix_cons _ _) fun t2 r2 he hq2 => ?_
         subst he
         clear h
         have h := hq2
         have hs := (List.suffix_cons t2 r2).trans (List.suffix_cons t _)
         rcases ydg h with ⟨c, r3, h1, h⟩ | ⟨c, r3, h1, rfl⟩
         ·obtain ⟨s1, s2, s3⟩ := ih _ _ _ h1
          have s3 := s3 rfl
          simp only [NT.had] at s2
          refine zha h (s1.trans hs) fun t4 r4 he hq2 => ?_
          subst he
          clear h
          have h := hq2
          obtain rfl := (Option.some.inj h).symm
          simp only [List.length_cons] at s2 s3
          exact ⟨(List.suffix_cons _ _).trans (s1.trans hs), by simp only [NT.had, List.length_cons]; omega, fun _ => by simp only [List.length_cons]; omega⟩
         ·exact (ih _ _ _ h1).bad_mono hs
        ·obtain rfl := (Option.some.inj h).symm
         exact ztn 5 (t :: r)
end
section
abbrev dec (v : Nat) : Bs := Lib.decDigits v
theorem yjx {v : Nat} (h : v < 10) : dec v = [UInt8.ofNat (48 + v)] := by unfold dec; rw [Lib.decDigits, dif_pos h]
theorem ysh {v : Nat} (h : ¬ v < 10) : dec v = dec (v / 10) ++ [UInt8.ofNat (48 + v % 10)] := by unfold dec; rw [Lib.decDigits, dif_neg h]
theorem ypn {d : Nat} (h : d < 10) : (UInt8.ofNat (48 + d)).toNat = 48 + d := by
 rw [UInt8.toNat_ofNat']; omega
theorem yqt (v : Nat) : ∀ c ∈ dec v, 48 ≤ c.toNat ∧ c.toNat ≤ 57 := by
 induction v using Nat.strongRecOn with
 | ind v ih =>
  intro c hc
  by_cases h : v < 10
  ·rw [yjx h] at hc
   simp only [List.mem_singleton] at hc
   subst hc
   rw [ypn h]; omega
  ·rw [ysh h] at hc
   rcases List.mem_append.1 hc with hc | hc
   ·exact ih (v / 10) (by omega) c hc
   ·simp only [List.mem_singleton] at hc
    subst hc
    rw [ypn (by omega)]; omega
theorem zkq (v : Nat) : 1 ≤ (dec v).length := by
 by_cases h : v < 10
 ·rw [yjx h]; simp
 ·rw [ysh h]; simp
theorem zfk : ∀ (k v : Nat), 1 ≤ k → v < 10 ^ k → (dec v).length ≤ k
 | 0, v, h, _ => by omega
 | k + 1, v, _, hv => by
  by_cases h : v < 10
  ·rw [yjx h]; simp
  ·rw [ysh h]
   have hk : 1 ≤ k := by
    rcases Nat.eq_zero_or_pos k with h0 | h0
    ·subst h0; simp at hv; omega
    ·exact h0
   have := zfk k (v / 10) hk (by rw [Nat.pow_succ] at hv; omega)
   simp; omega
theorem dec_head (v : Nat) (h0 : 1 ≤ v) : (dec v).head? ≠ some 48 := by
 induction v using Nat.strongRecOn with
 | ind v ih =>
  by_cases h : v < 10
  ·rw [yjx h]
   simp only [List.head?_cons, ne_eq, Option.some.injEq]
   intro e
   have := congrArg UInt8.toNat e
   rw [ypn h] at this
   simp at this; omega
  ·rw [ysh h]
   have hp := zkq (v / 10)
   have := ih (v / 10) (by omega) (by omega)
   cases hd : dec (v / 10) with
   | nil => rw [hd] at hp; simp at hp
   | cons c r => rw [hd] at this; simpa using this
theorem zpr (v : Nat) {c : UInt8} (hc : c.toNat < 48 ∨ 57 < c.toNat) : c ∉ dec v := fun h => by have := yqt v c h; omega
end
section
variable {nm : Bs → Bool} {names : List Bs}
theorem zkj {f g : Nat} {nt : NT} {ts : List PW} {res : Res} (h : PP nm names f nt ts = some res) (hg : f ≤ g := by omega) : PP nm names g nt ts = some res := zki h hg
theorem p_choice1 {ts r : List PW} {c : List Tm} (h : ymv nm names (.bin 1) ts (.ok c r)) (hr : ybd r ≠ [63]) : ymv nm names .choice ts (.ok c r) := by
 obtain ⟨f, hf⟩ := h
 exact ⟨f + 1, by rw [PP, hf, ylh, if_neg hr]⟩
theorem p_choice2 {ts r r3 r4 : List PW} {t t2 : PW} {c y z : List Tm} (h1 : ymv nm names (.bin 1) ts (.ok c (t :: r))) (ht : t.w = [63]) (h2 : ymv nm names .choice r (.ok y (t2 :: r3))) (ht2 : t2.w = [58]) (h3 : ymv nm names .choice r3 (.ok z r4)) : ymv nm names .choice ts (.ok ((43, 0) :: (c ++ (y ++ z))) r4) := by
 obtain ⟨f1, h1⟩ := h1
 obtain ⟨f2, h2⟩ := h2
 obtain ⟨f3, h3⟩ := h3
 refine ⟨f1 + f2 + f3 + 1, ?_⟩
 rw [PP, zkj (g := f1 + f2 + f3) h1, ylh, if_pos (show ybd (t :: r) = [63] from ht), List.tail_cons, zkj (g := f1 + f2 + f3) h2, ylh, yxb, if_pos ht2, zkj (g := f1 + f2 + f3) h3, ylh]
theorem zvb {l : Nat} {ts r : List PW} {left : List Tm} {res : Res} (hl : l < 6) (h1 : ymv nm names (.bin (l + 1)) ts (.ok left r)) (h2 : ymv nm names (.tail l left) r res) : ymv nm names (.bin l) ts res := by
 obtain ⟨f1, h1⟩ := h1
 obtain ⟨f2, h2⟩ := h2
 refine ⟨f1 + f2 + 1, ?_⟩
 rw [PP, if_neg (by omega), zkj (g := f1 + f2) h1, ylh, zkj (g := f1 + f2) h2]
theorem p_bin6 {ts : List PW} {res : Res} (h1 : ymv nm names .unary ts res) : ymv nm names (.bin 6) ts res := by
 obtain ⟨f1, h1⟩ := h1
 exact ⟨f1 + 1, by rw [PP, if_pos (by omega), h1]⟩
theorem zqt {l : Nat} {ts : List PW} {left : List Tm} (h : ymf (ybd ts) = 0 ∨ yfg (ymf (ybd ts)) ≠ l) : ymv nm names (.tail l left) ts (.ok left ts) := ⟨1, by rw [PP, if_pos h]⟩
theorem zta {l : Nat} {r r2 : List PW} {t : PW} {left right : List Tm} {res : Res} (h0 : ymf t.w ≠ 0) (hl : yfg (ymf t.w) = l) (h1 : ymv nm names (.bin (l + 1)) r (.ok right r2)) (h3 : l = 3 → res = .ok ((ymf t.w, 0) :: (left ++ right)) r2) (h2 : l ≠ 3 → ymv nm names (.tail l ((ymf t.w, 0) :: (left ++ right))) r2 res) : ymv nm names (.tail l left) (t :: r) res := by
 obtain ⟨f1, h1⟩ := h1
 by_cases e : l = 3
 ·refine ⟨f1 + 1, ?_⟩
  rw [PP, if_neg (by simp only [ybd]; rintro (h | h); exact h0 h; exact h hl), List.tail_cons, h1, ylh, if_pos e, h3 e]; rfl
 ·obtain ⟨f2, h2⟩ := h2 e
  refine ⟨f1 + f2 + 1, ?_⟩
  rw [PP, if_neg (by simp only [ybd]; rintro (h | h); exact h0 h; exact h hl), List.tail_cons, zkj (g := f1 + f2) h1, ylh, if_neg e]
  exact zkj h2
theorem p_neg {r r2 : List PW} {t : PW} {x : List Tm} (ht : t.w = [45]) (h : ymv nm names .unary r (.ok x r2)) : ymv nm names .unary (t :: r) (.ok ((18, 0) :: x) r2) := by
 obtain ⟨f, h⟩ := h
 exact ⟨f + 1, by rw [PP, if_pos (show ybd (t :: r) = [45] from ht), List.tail_cons, h, ylh]⟩
theorem p_not {r r2 : List PW} {t : PW} {x : List Tm} (ht : t.w = [33]) (h : ymv nm names .unary r (.ok x r2)) : ymv nm names .unary (t :: r) (.ok ((19, 0) :: x) r2) := by
 obtain ⟨f, h⟩ := h
 exact ⟨f + 1, by rw [PP, if_neg (show ybd (t :: r) ≠ [45] by simp [ybd, ht]), if_pos (show ybd (t :: r) = [33] from ht), List.tail_cons, h, ylh]⟩
theorem p_prim {ts : List PW} {res : Res} (h1 : ybd ts ≠ [45]) (h2 : ybd ts ≠ [33]) (h : ymv nm names .prim ts res) : ymv nm names .unary ts res := by
 obtain ⟨f, h⟩ := h
 exact ⟨f + 1, by rw [PP, if_neg h1, if_neg h2, h]⟩
theorem p_num {t : PW} {r : List PW} (h : t.k = 2) : ymv nm names .prim (t :: r) (.ok [(1, (t.v : Int))] r) := ⟨1, by simp only [PP, if_pos h]⟩
theorem p_paren {t t2 : PW} {r r3 : List PW} {x : List Tm} (hk : t.k ≠ 2) (ht : t.w = [40]) (h : ymv nm names .choice r (.ok x (t2 :: r3))) (h2 : t2.w = [41]) : ymv nm names .prim (t :: r) (.ok x r3) := by
 obtain ⟨f, h⟩ := h
 exact ⟨f + 1, by simp only [PP, if_neg hk, if_pos ht, h, ylh, yxb, if_pos h2]⟩
theorem p_q {t : PW} {r : List PW} (hk : t.k ≠ 2) (ht : t.w = [113]) : ymv nm names .prim (t :: r) (ypd nm names r) := ⟨1, by simp only [PP, if_neg hk, ht, if_pos]; rw [if_neg (by simp)]⟩
theorem p_const {t : PW} {r : List PW} (hk : t.k ≠ 2) (h1 : t.w ≠ [40]) (h2 : t.w ≠ [113]) (h3 : yiy t.w ≠ 0) : ymv nm names .prim (t :: r) (.ok [(yiy t.w, 0)] r) := ⟨1, by simp only [PP, if_neg hk, if_neg h1, if_neg h2, if_pos h3]⟩
theorem p_agg {t t2 t4 : PW} {r2 r4 : List PW} {x : List Tm} (hk : t.k ≠ 2) (h1 : t.w ≠ [40]) (h2 : t.w ≠ [113]) (h3 : yiy t.w = 0) (h4 : zkl t.w ≠ 0) (h5 : t2.w = [40]) (h : ymv nm names .choice r2 (.ok x (t4 :: r4))) (h6 : t4.w = [41]) : ymv nm names .prim (t :: t2 :: r2) (.ok ((zkl t.w, 0) :: x) r4) := by
 obtain ⟨f, h⟩ := h
 exact ⟨f + 1, by simp only [PP, if_neg hk, if_neg h1, if_neg h2, if_neg (show ¬ yiy t.w ≠ 0 from fun e => e h3), if_pos h4, yxb, if_pos h5, h, ylh, if_pos h6]⟩
theorem p_var {t : PW} {r : List PW} {x : Nat} (hk : t.k ≠ 2) (h1 : t.w ≠ [40]) (h2 : t.w ≠ [113]) (h3 : yiy t.w = 0) (h4 : zkl t.w = 0) (hn : nm t.w = true) (hx : ypc names t.w = some x) : ymv nm names .prim (t :: r) (.ok [(5, (x : Int))] r) :=
 ⟨1, by simp only [PP, if_neg hk, if_neg h1, if_neg h2, if_neg (show ¬ yiy t.w ≠ 0 from fun e => e h3), if_neg (show ¬ zkl t.w ≠ 0 from fun e => e h4), yzp, if_pos hn, hx]⟩
def pwS (w : Bs) : PW := ⟨w, 3, 0⟩
def pwN (w : Bs) : PW := ⟨w, 1, 0⟩
def pwV (n : Nat) : PW := ⟨dec n, 2, n⟩
inductive Wr (names : List Bs) : Nat → Ex → Bs → List PW → Prop
 | down {l : Nat} {E : Ex} {x : Bs} {ws : List PW} (hl : l < 7) (h : Wr names (l + 1) E x ws) : Wr names l E x ws
 | paren {E : Ex} {x : Bs} {ws : List PW} (h : Wr names 0 E x ws) : Wr names 7 E (40 :: (x ++ [41])) (pwS [40] :: (ws ++ [pwS [41]]))
 | choice {a b c : Ex} {xa xb xc : Bs} {wa wb wc : List PW} (ha : Wr names 1 a xa wa) (hb : Wr names 0 b xb wb) (hc : Wr names 0 c xc wc) : Wr names 0 (.tr (43, 0) a b c) (xa ++ (32 :: 63 :: 32 :: (xb ++ (32 :: 58 :: 32 :: xc)))) (wa ++ (pwS [63] :: (wb ++ (pwS [58] :: wc))))
 | bin {op : Int} {l : Nat} {w : Bs} {a b : Ex} {xa xb : Bs} {wa wb : List PW} (h0 : ymf w = op) (hw : w ∈ zkn) (hl : yfg op = l) (h3 : l ≠ 3) (ha : Wr names l a xa wa) (hb : Wr names (l + 1) b xb wb) : Wr names l (.bi (op, 0) a b) (xa ++ (32 :: (w ++ (32 :: xb)))) (wa ++ (pwS w :: wb))
 | cmp {op : Int} {w : Bs} {a b : Ex} {xa xb : Bs} {wa wb : List PW} (h0 : ymf w = op) (hw : w ∈ zkn) (hl : yfg op = 3) (ha : Wr names 4 a xa wa) (hb : Wr names 4 b xb wb) : Wr names 3 (.bi (op, 0) a b) (xa ++ (32 :: (w ++ (32 :: xb)))) (wa ++ (pwS w :: wb))
 | neg {a : Ex} {xa : Bs} {wa : List PW} (ha : Wr names 6 a xa wa) : Wr names 6 (.un (18, 0) a) (45 :: xa) (pwS [45] :: wa)
 | not {a : Ex} {xa : Bs} {wa : List PW} (ha : Wr names 6 a xa wa) : Wr names 6 (.un (19, 0) a) (33 :: xa) (pwS [33] :: wa)
 | agg {op : Int} {w : Bs} {a : Ex} {xa : Bs} {wa : List PW} (h0 : zkl w = op) (hw : w ∈ zkd) (ha : Wr names 0 a xa wa) : Wr names 7 (.un (op, 0) a) (w ++ (40 :: (xa ++ [41]))) (pwN w :: pwS [40] :: (wa ++ [pwS [41]]))
 | num {n : Nat} (hn : n ≤ 1073741824) : Wr names 7 (.lf (1, n)) (dec n) [pwV n]
 | own {i : Nat} {w : Bs} (h : names[i]? = some w) : Wr names 7 (.lf (5, i)) w [pwN w]
 | near {i : Nat} {w : Bs} (h : names[i]? = some w) : Wr names 7 (.lf (12, i)) (113 :: 46 :: w) [pwN [113], pwS [46], pwN w]
 | here : Wr names 7 (.lf (11, 0)) [113] [pwN [113]]
 | const {op : Int} {w : Bs} (h0 : yiy w = op) (hw : w ∈ ymh) (hne : w ≠ []) : Wr names 7 (.lf (op, 0)) w [pwN w]
 | field {op : Int} {w : Bs} (h0 : yko w = op) (hw : w ∈ ynn) : Wr names 7 (.lf (op, 0)) (113 :: 46 :: w) [pwN [113], pwS [46], pwN w]
structure NmOk (nm : Bs → Bool) (names : List Bs) : Prop where
 good : ∀ w ∈ names, nm w = true
 nodup : names.Nodup
 res : ∀ w, nm w = true → yiy w = 0 ∧ zkl w = 0 ∧ yko w = 0 ∧ w ≠ [113] ∧ w ≠ [40] ∧ w ≠ [45] ∧ w ≠ [33]
theorem yyz : ∀ {l : List Bs} {i : Nat} {w : Bs}, l.Nodup → l[i]? = some w → ypc l w = some i
 | [], i, w, _, h => by simp at h
 | x :: l, 0, w, _, h => by simp at h; simp [ypc, h]
 | x :: l, i + 1, w, hn, h => by
  simp only [List.getElem?_cons_succ] at h
  have hne : x ≠ w := fun e => (List.nodup_cons.1 hn).1 (e ▸ List.mem_of_getElem? h)
  rw [ypc, if_neg hne, yyz (List.nodup_cons.1 hn).2 h]
  rfl
theorem zqd : ∀ {l : List Bs} {i : Nat} {w : Bs}, ypc l w = some i → l[i]? = some w
 | [], i, w, h => by cases h
 | x :: l, i, w, h => by
  rw [ypc] at h
  split at h
  ·rename_i e; cases h; simp [e]
  ·cases hq : ypc l w with
   | none => rw [hq] at h; cases h
   | some j => rw [hq] at h; cases h; simpa using zqd hq
theorem agg_words : ∀ w ∈ zkd, zkl w ≠ 0 ∧ yiy w = 0 ∧ w ≠ [40] ∧ w ≠ [113] ∧ w ≠ [45] ∧ w ≠ [33] := by decide
theorem const_words : ∀ w ∈ ymh, w ≠ [] → yiy w ≠ 0 ∧ w ≠ [40] ∧ w ≠ [113] ∧ w ≠ [45] ∧ w ≠ [33] := by decide
theorem field_words : ∀ w ∈ ynn, yko w ≠ 0 := by decide
theorem zhm : ∀ w ∈ zkn, ymf w ≠ 0 ∧ 1 ≤ yfg (ymf w) ∧ yfg (ymf w) ≤ 5 := by decide
theorem zmp : ∀ {l : List Bs} {w : Bs} {i : Nat}, ypc l w = some i → w ∈ l := fun h => List.mem_of_getElem? (zqd h)
theorem find_mem {first : Int} {l : List Bs} {w : Bs} (h : yyk first l w ≠ 0) : w ∈ l ∧ w ≠ [] := by
 unfold yyk at h
 split at h
 ·exact absurd rfl h
 ·rename_i hne
  cases hi : ypc l w with
  | none => rw [hi] at h; exact absurd rfl h
  | some i => exact ⟨zmp hi, hne⟩
def Fol (l : Nat) (r : List PW) : Prop := (l = 0 → ybd r ≠ [63]) ∧ ybd r ≠ [46] ∧ (ymf (ybd r) = 0 ∨ yfg (ymf (ybd r)) < l)
def zwr (l : Nat) (r : List PW) : Prop := ybd r ≠ [46] ∧ (ymf (ybd r) = 0 ∨ yfg (ymf (ybd r)) < l ∨ (yfg (ymf (ybd r)) = l ∧ l ≠ 3))
theorem zwr.up {l : Nat} {r : List PW} (h : zwr l r) : Fol (l + 1) r := ⟨by omega, h.1, h.2.imp id (by omega)⟩
theorem Fol.weak {l : Nat} {r : List PW} (h : Fol l r) : zwr l r := ⟨h.2.1, h.2.2.imp id .inl⟩
theorem Fol.up {l : Nat} {r : List PW} (h : Fol l r) : Fol (l + 1) r := h.weak.up
theorem yyx {l : Nat} {w : Bs} {r : List PW} (hw : ymf w = 0) (hd : w ≠ [46]) (h : w ≠ [63] ∨ l ≠ 0) : Fol l (pwS w :: r) := ⟨fun e => h.elim id (fun h => absurd e h), hd, .inl hw⟩
theorem fol_op {l : Nat} {w : Bs} {r : List PW} (hw : w ∈ zkn) (h : yfg (ymf w) < l) : Fol l (pwS w :: r) := ⟨fun e => by omega, fun e => by have e : w = [46] := e; rw [e] at hw; revert hw; decide, .inr h⟩
def Ans (nm : Bs → Bool) (names : List Bs) (l : Nat) (e : List Tm) (ws : List PW) : Prop :=
 (l = 0 → ∀ r, Fol 0 r → ymv nm names .choice (ws ++ r) (.ok e r)) ∧
 (1 ≤ l → l ≤ 5 → ∀ r res, zwr l r → ymv nm names (.tail l e) r res → ymv nm names (.bin l) (ws ++ r) res) ∧
 (l = 6 → ∀ r, ybd r ≠ [46] → ymv nm names .unary (ws ++ r) (.ok e r)) ∧
 (l = 7 → (∀ r, ybd r ≠ [46] → ymv nm names .prim (ws ++ r) (.ok e r)) ∧ ybd ws ≠ [45] ∧ ybd ws ≠ [33] ∧ ws ≠ [])
theorem Ans.full {l : Nat} {e : List Tm} {ws : List PW} (h : Ans nm names l e ws) (h1 : 1 ≤ l) (h5 : l ≤ 5) {r : List PW} (hr : Fol l r) : ymv nm names (.bin l) (ws ++ r) (.ok e r) :=
 h.2.1 h1 h5 r _ hr.weak (zqt (hr.2.2.imp id (by omega)))
theorem Ans.bin {l : Nat} {e : List Tm} {ws : List PW} (h : Ans nm names l e ws) (h1 : 1 ≤ l) (h5 : l ≤ 6) {r : List PW} (hr : Fol l r) : ymv nm names (.bin l) (ws ++ r) (.ok e r) := by
 by_cases e : l = 6
 ·subst e; exact p_bin6 (h.2.2.1 rfl r hr.2.1)
 ·exact h.full h1 (by omega) hr
theorem zic {a b : List PW} (h : a ≠ []) : ybd (a ++ b) = ybd a := by
 cases a with
 | nil => exact absurd rfl h
 | cons x a => rfl
theorem ymd {e : List Tm} {ws : List PW} (h : ∀ r, ybd r ≠ [46] → ymv nm names .prim (ws ++ r) (.ok e r)) (h1 : ybd ws ≠ [45]) (h2 : ybd ws ≠ [33]) (hne : ws ≠ []) : Ans nm names 7 e ws := ⟨by omega, by omega, by omega, fun _ => ⟨h, h1, h2, hne⟩⟩
theorem wr_ans (hN : NmOk nm names) {l : Nat} {E : Ex} {x : Bs} {ws : List PW} (h : Wr names l E x ws) : Ans nm names l E.fl ws := by
 induction h with
 | @down l E x ws hl h ih =>
  refine ⟨fun e r hr => ?_, fun h1 h5 r res hr ht => zvb (by omega) (ih.bin (by omega) (by omega) hr.up) ht, fun e r hr => ?_, fun e => by omega⟩
  ·subst e
   exact p_choice1 (ih.bin (by omega) (by omega) hr.up) (hr.1 rfl)
  ·subst e
   obtain ⟨h1, h2, h3, h4⟩ := ih.2.2.2 rfl
   exact p_prim (by rw [zic h4]; exact h2) (by rw [zic h4]; exact h3) (h1 r hr)
 | @paren E x ws h ih =>
  refine ymd (fun r hr => ?_) (by simp [ybd, pwS]) (by simp [ybd, pwS]) (by simp)
  rw [List.cons_append, List.append_assoc]
  exact p_paren (by simp [pwS]) rfl (ih.1 rfl _ (yyx (by decide) (by decide) (.inl (by decide)))) rfl
 | @choice a b c xa xb xc wa wb wc ha hb hc iha ihb ihc =>
  refine ⟨fun _ r hr => ?_, by omega, by omega, by omega⟩
  have h3 := ihc.1 rfl r hr
  have h2 := ihb.1 rfl (pwS [58] :: (wc ++ r)) (yyx (by decide) (by decide) (.inl (by decide)))
  have h1 := iha.full (by omega) (by omega) (r := pwS [63] :: (wb ++ (pwS [58] :: (wc ++ r)))) (yyx (by decide) (by decide) (.inr (by omega)))
  have := p_choice2 h1 rfl h2 rfl h3
  simpa [Ex.fl] using this
 | @bin op l w a b xa xb wa wb h0 hw hl h3 ha hb iha ihb =>
  have hb5 := zhm w hw
  rw [h0, hl] at hb5
  refine ⟨by omega, fun _ _ r res hr ht => ?_, by omega, by omega⟩
  rw [List.append_assoc]
  refine iha.2.1 hb5.2.1 hb5.2.2 _ _ ⟨fun e => by have e : w = [46] := e; rw [e] at hw; revert hw; decide, .inr (.inr ⟨by show yfg (ymf w) = l; rw [h0, hl], h3⟩)⟩ ?_
  refine zta (t := pwS w) (by show ymf w ≠ 0; rw [h0]; exact hb5.1) (by show yfg (ymf w) = l; rw [h0, hl]) (ihb.bin (by omega) (by omega) hr.up) (fun e => absurd e h3) fun _ => ?_
  show ymv nm names (.tail l ((ymf w, 0) :: (a.fl ++ b.fl))) r res
  rw [h0]
  exact ht
 | @cmp op w a b xa xb wa wb h0 hw hl ha hb iha ihb =>
  have hb5 := zhm w hw
  rw [h0] at hb5
  refine ⟨by omega, fun _ _ r res hr ht => ?_, by omega, by omega⟩
  have hr3 : ymf (ybd r) = 0 ∨ yfg (ymf (ybd r)) ≠ 3 := by
   rcases hr.2 with h | h | h
   ·exact .inl h
   ·exact .inr (by omega)
   ·exact absurd rfl h.2
  have hres := (zqt (nm := nm) (names := names) (left := (Ex.bi (op, 0) a b).fl) hr3).det ht
  subst hres
  rw [List.append_assoc]
  refine zvb (by omega) (iha.full (by omega) (by omega) (fol_op hw (by rw [h0, hl]; omega))) ?_
  refine zta (t := pwS w) (by show ymf w ≠ 0; rw [h0]; exact hb5.1) (by show yfg (ymf w) = 3; rw [h0, hl]) (ihb.bin (by omega) (by omega) hr.up) (fun e => ?_) fun e => absurd rfl e
  show _ = Res.ok ((ymf w, 0) :: (a.fl ++ b.fl)) r
  rw [h0]; rfl
 | @neg a xa wa ha iha => exact ⟨by omega, by omega, fun _ r hr => p_neg rfl (iha.2.2.1 rfl r hr), by omega⟩
 | @not a xa wa ha iha => exact ⟨by omega, by omega, fun _ r hr => p_not rfl (iha.2.2.1 rfl r hr), by omega⟩
 | @agg op w a xa wa h0 hw ha iha =>
  obtain ⟨g1, g2, g3, g4, g5, g6⟩ := agg_words w hw
  refine ymd (fun r hr => ?_) g5 g6 (by simp)
  have := p_agg (t := pwN w) (t2 := pwS [40]) (t4 := pwS [41]) (r4 := r) (by simp [pwN]) g3 g4 g2 g1 rfl (iha.1 rfl (pwS [41] :: r) (yyx (by decide) (by decide) (.inl (by decide)))) rfl
  rw [show zkl (pwN w).w = op from h0] at this
  simpa [Ex.fl] using this
 | @num n hn =>
  have hd := yqt n
  have hne : dec n ≠ [45] ∧ dec n ≠ [33] := by constructor <;> (intro e; rw [e] at hd; have := hd _ (List.mem_singleton.2 rfl); revert this; decide)
  exact ymd (fun r hr => p_num rfl) hne.1 hne.2 (by simp)
 | @own i w h =>
  have hg := hN.good w (List.mem_of_getElem? h)
  obtain ⟨g1, g2, g3, g4, g5, g6, g7⟩ := hN.res w hg
  exact ymd (fun r hr => p_var (t := pwN w) (by simp [pwN]) g5 g4 g1 g2 hg (yyz hN.nodup h)) g6 g7 (by simp)
 | @near i w h =>
  have hg := hN.good w (List.mem_of_getElem? h)
  obtain ⟨g1, g2, g3, g4, g5, g6, g7⟩ := hN.res w hg
  refine ymd (fun r hr => ?_) (by simp [ybd, pwN]) (by simp [ybd, pwN]) (by simp)
  have := p_q (nm := nm) (names := names) (t := pwN [113]) (r := pwS [46] :: pwN w :: r) (by simp [pwN]) rfl
  have e : ypd nm names (pwS [46] :: pwN w :: r) = .ok [(12, (i : Int))] r := by
   simp only [ypd, ybd, pwS, pwN, if_pos, List.tail_cons, g3, yzp, hg, yyz hN.nodup h]
  rw [e] at this
  exact this
 | here =>
  refine ymd (fun r hr => ?_) (by simp [ybd, pwN]) (by simp [ybd, pwN]) (by simp)
  have := p_q (nm := nm) (names := names) (t := pwN [113]) (r := r) (by simp [pwN]) rfl
  rw [ypd, if_neg hr] at this
  exact this
 | @const op w h0 hw hne =>
  obtain ⟨g1, g2, g3, g4, g5⟩ := const_words w hw hne
  refine ymd (fun r hr => ?_) g4 g5 (by simp)
  have := p_const (nm := nm) (names := names) (t := pwN w) (r := r) (by simp [pwN]) g2 g3 g1
  rw [show yiy (pwN w).w = op from h0] at this
  exact this
 | @field op w h0 hw =>
  refine ymd (fun r hr => ?_) (by simp [ybd, pwN]) (by simp [ybd, pwN]) (by simp)
  have := p_q (nm := nm) (names := names) (t := pwN [113]) (r := pwS [46] :: pwN w :: r) (by simp [pwN]) rfl
  have e : ypd nm names (pwS [46] :: pwN w :: r) = .ok [(op, 0)] r := by
   have h1 : op ≠ 0 := h0 ▸ field_words w hw
   simp only [ypd, ybd, pwS, pwN, if_pos, List.tail_cons, h0, if_neg h1]
  rw [e] at this
  exact this
end
end Go.Proofs.YtefiainojfeagaaGreatDoor
