/- Part 9 of the texts under ExprFormats,ExprBracketsEverything: joined, with what it needs alone. -/
import Derived.RecoverIn
import Derived.WideLaws
import Derived.Test.YtcpgpiabeimefaaGreatDoorR8
set_option linter.unusedVariables false
set_option maxHeartbeats 4000000
namespace Go.Proofs.YtcpgpiabeimefaaGreatDoor
open Go.RowKit
abbrev Runs := Array Value → World → (Ending → World → Prop) → Prop
def ylj (K : Runs) (args : List AV) (hs : Nat → Option LObj) (r : AV) (hs' : Nat → Option LObj) : Prop :=
  (∀ id o, hs' id = some o → isC o = true → ∃ o', hs id = some o' ∧ isC o' = true) ∧ ∀ (ok0 : Nat → Prop) (lv : Live) (w : World) (us : List Value), Inv (ydp w lv) ok0 hs lv w → ybr (ybi (ydp w lv) ok0 lv w) w lv args us →
    K us.toArray w fun e w' => ∃ u lv', e = .returned u ∧ Rel (ybi (ydp w lv) ok0 lv' w') w' lv' r u ∧ Inv (ydp w lv) ok0 hs' lv' w' ∧ ∀ id o, hs' id = some o → isC o = true → ∃ b n n', lv id = some (some b, n) ∧ lv' id = some (some b, n')
def KD (P : Program) (f : FuncId) (u u' : FrameMode) : Runs := fun us w R => CallsDIn Fence.wide 0 P f us u w fun e u2 w' => u2 = u' ∧ R e w'
theorem KD.mono {P : Program} {f : FuncId} {u u' : FrameMode} {us : Array Value} {w : World} {R R' : Ending → World → Prop} (h : ∀ e w', R e w' → R' e w') (hk : KD P f u u' us w R) : KD P f u u' us w R' :=
  CallsDIn.mono hk fun e u2 w' ⟨h1, h2⟩ => ⟨h1, h _ _ h2⟩
section
variable {P : Program} {N : Nat}
theorem lendK {K : Runs} (hK : ∀ (us : Array Value) (w : World) (R R' : Ending → World → Prop), (∀ e w', R e w' → R' e w') → K us w R → K us w R') {args0 : List AV} {hm hm' : Nat → Option LObj} {r : AV} {σ : Nat → Nat} {ids : List Nat} {s s2 : SS} {B : Bse} {ok0 : Nat → Prop} {lv : Live} {a : Act} {w : World} {vs : List Value}
    (hs : Sim B ok0 N s lv a w) (hvs : ybr (ybi B ok0 lv w) w lv (args0.map (yey σ)) vs) (hc : ylj K args0 hm r hm')
    (hinj : ∀ i ∈ ids, ∀ j ∈ ids, σ i = σ j → i = j) (hdom : ∀ id, (hm id).isSome → id ∈ ids) (hdom' : ∀ id, (hm' id).isSome → id ∈ ids) (hmem : ∀ id o, hm id = some o → s.h (σ id) = some (yjs σ o)) (hro : ∀ id o, hm' id = some o → yjw ids o = true)
    (ht : ∀ x y, s2.t x = some y → (y = .any ∧ ∃ z, s.t x = some z) ∨ (s.t x = some y ∧ Kept σ ids hm' y))
    (hh1 : ∀ i ∈ ids, s2.h (σ i) = (hm' i).map (yjs σ)) (hh2 : ∀ j ob', (∀ i ∈ ids, σ i ≠ j) → s2.h j = some ob' → (∀ i ∈ ids, yfe (σ i) ob' = false) ∧ ∃ ob, s.h j = some ob ∧ yhm ob ob') : K vs.toArray w fun e w' => ∃ u lv2, e = .returned u ∧ Sim B ok0 N s2 lv2 a w' := by
  let lv1 : Live := fun id => if id ∈ ids ∧ (hm id).isSome then lv (σ id) else none
  have hl1 : ∀ id b n, lv1 id = some (b, n) → id ∈ ids ∧ (hm id).isSome ∧ lv (σ id) = some (b, n) := by
    intro id b n hb
    simp only [lv1] at hb
    split at hb
    · rename_i h; exact ⟨h.1, h.2, hb⟩
    · cases hb
  have hl2 : ∀ id b n, lv1 id = some (b, n) → lv (σ id) = some (b, n) := fun id b n h => (hl1 id b n h).2.2
  have hmine : ∀ b, yhl lv1 b → B.mine b ∧ b < w.heap.size ∧ ∃ i ∈ ids, ∃ n, lv (σ i) = some (some b, n) := by
    rintro b ⟨id, n, hb⟩
    obtain ⟨h1, h2, h3⟩ := hl1 id _ n hb
    obtain ⟨_, _, h4, h5, _⟩ := hs.inv.lvat h3
    exact ⟨h4, h5, id, h1, n, h3⟩
  have hok1 : ∀ g, ybi B ok0 lv w g → ybi (ydp w lv1) (ybi B ok0 lv w) lv1 w g := fun g hg => ⟨.inl hg, hg.2.1, fun id b n hb => hg.2.2 (σ id) b n (hl2 id _ n hb)⟩
  have hinv : Inv (ydp w lv1) (ybi B ok0 lv w) hm lv1 w := by
    refine ⟨⟨rfl, rfl, rfl, Nat.le_refl _, fun _ _ _ => rfl, hs.inv.base.glob, hs.inv.base.glob.size, fun k hk => hs.inv.base.mineG (hmine k hk).1, fun l h => by cases h⟩, fun g hg => hg.2.1, fun id hid => by simp [lv1, hid], fun i j b n m h1 h2 => ?_, fun id x hx => ?_⟩
    · obtain ⟨q1, _, q2⟩ := hl1 _ _ _ h1
      obtain ⟨r1, _, r2⟩ := hl1 _ _ _ h2
      exact hinj i q1 j r1 (hs.inv.inj _ _ b n m q2 r2)
    · obtain ⟨b, n, h1, h2⟩ := hs.inv.obj (σ id) _ (hmem id x hx)
      have hlv : lv1 id = some (b, n) := by simp [lv1, hdom id (by simp [hx]), hx, h1]
      refine ⟨b, n, hlv, ?_⟩
      cases b with
      | none => exact renO_nil h2
      | some b => exact ⟨.inl ⟨id, n, hlv⟩, h2.2.1, yeo.unren hl2 hok1 h2.2.2⟩
  have hall : ybr (ybi (ydp w lv1) (ybi B ok0 lv w) lv1 w) w lv1 args0 vs := by
    refine ⟨by rw [hvs.1, List.length_map], fun i x u hx hu => ?_⟩
    have hrel : Rel (ybi B ok0 lv w) w lv (yey σ x) u := hvs.2 i _ u (by simp [hx]) hu
    exact (Rel.unren hl2 hrel).keep fun g hg => ⟨hok1 g hg, rfl⟩
  refine hK _ _ _ _ (fun e w' ⟨u, lv3, he, hu, hi3, hpin⟩ => ?_) (hc.2 (ybi B ok0 lv w) lv1 w vs hinv hall)
  have hb3 := hi3.base
  -- the blocks that are not lent stay
  have hstay : ∀ k, k < w.heap.size → (∀ i ∈ ids, ∀ n, lv (σ i) ≠ some (some k, n)) → w'.heap[k]? = w.heap[k]? := by
    intro k hk hn
    exact hb3.block k hk fun hlent => by
      obtain ⟨_, _, i, hi, n, hn'⟩ := hmine k hlent
      exact hn i hi n hn'
  have hsz : w.heap.size ≤ w'.heap.size := hb3.size
  have hmine3 : ∀ id b n, lv3 id = some (some b, n) → B.mine b ∧ b < w'.heap.size ∧ (w.heap.size ≤ b ∨ ∃ i ∈ ids, ∃ n, lv (σ i) = some (some b, n)) := by
    intro id b n hb
    obtain ⟨_, _, q1, q2, _⟩ := hi3.lvat hb
    rcases q1 with q1 | q1
    · have := hmine b q1
      exact ⟨this.1, q2, .inr this.2.2⟩
    · exact ⟨.inr (Nat.le_trans hs.inv.base.size q1), q2, .inl q1⟩
  have hid3 : ∀ id b n, lv3 id = some (b, n) → id ∈ ids := fun id b n hb => by
    cases hq : hm' id with
    | none => rw [hi3.dom id hq] at hb; cases hb
    | some o => exact hdom' id (by simp [hq])
  let find : Nat → Option Nat := fun j => ids.find? fun i => σ i == j
  have hf1 : ∀ j i, find j = some i → i ∈ ids ∧ σ i = j := fun j i h => ⟨List.mem_of_find?_eq_some h, by simpa using List.find?_some h⟩
  have hf2 : ∀ i ∈ ids, find (σ i) = some i := fun i hi => by
    cases hq : find (σ i) with
    | none =>
      have := List.find?_eq_none.1 hq i hi
      simp at this
    | some k => obtain ⟨h1, h2⟩ := hf1 _ _ hq; rw [hinj k h1 i hi h2]
  have hf3 : ∀ j, find j = none → ∀ i ∈ ids, σ i ≠ j := fun j h i hi e => by
    have := List.find?_eq_none.1 h i hi
    simp [e] at this
  let lv2 : Live := fun j => match find j with
    | some i => lv3 i
    | none => if (s2.h j).isSome then lv j else none
  have hlv2a : ∀ i ∈ ids, lv2 (σ i) = lv3 i := fun i hi => by simp only [lv2, hf2 i hi]
  have hlv2b : ∀ j, (∀ i ∈ ids, σ i ≠ j) → ∀ b n, lv2 j = some (b, n) → lv j = some (b, n) ∧ (s2.h j).isSome := by
    intro j hj b n hb
    have hn : find j = none := by
      cases hq : find j with
      | none => rfl
      | some i => obtain ⟨h1, h2⟩ := hf1 _ _ hq; exact absurd h2 (hj i h1)
    simp only [lv2, hn] at hb
    split at hb
    · rename_i h; exact ⟨hb, h⟩
    · cases hb
  have hcase : ∀ j, (∃ i ∈ ids, σ i = j) ∨ ∀ i ∈ ids, σ i ≠ j := fun j => by
    cases hq : find j with
    | none => exact .inr (hf3 j hq)
    | some i => obtain ⟨h1, h2⟩ := hf1 _ _ hq; exact .inl ⟨i, h1, h2⟩
  have hok2 : ∀ g, ybi B ok0 lv w g → ybi B ok0 lv2 w' g ∧ w'.heap[g]? = w.heap[g]? := by
    intro g hg
    refine ⟨⟨hg.1, Nat.lt_of_lt_of_le hg.2.1 hsz, fun j b n hb => ?_⟩, hstay g hg.2.1 fun i _ n hn => hg.2.2 _ _ n hn rfl⟩
    rcases hcase j with ⟨i, hi, rfl⟩ | hj
    · rw [hlv2a i hi] at hb
      rcases (hmine3 i b n hb).2.2 with h | ⟨i', _, n', h⟩
      · have := hg.2.1; omega
      · exact hg.2.2 _ _ n' h
    · exact hg.2.2 j b n (hlv2b j hj _ n hb).1
  have hok3 : ∀ g, ybi (ydp w lv1) (ybi B ok0 lv w) lv3 w' g → ybi B ok0 lv2 w' g := by
    intro g hg
    refine ⟨?_, hg.2.1, fun j b n hb => ?_⟩
    · rcases hg.1 with h | h | h
      · exact h.1
      · exact .inr (hmine g h).1
      · exact .inr (.inr (Nat.le_trans hs.inv.base.size h))
    · rcases hcase j with ⟨i, hi, rfl⟩ | hj
      · rw [hlv2a i hi] at hb
        exact hg.2.2 i b n hb
      · obtain ⟨hb', _⟩ := hlv2b j hj _ n hb
        have hlt := hs.inv.lvlt hb'
        rintro rfl
        rcases hg.1 with h | h | h
        · exact h.2.2 j b n hb' rfl
        · obtain ⟨_, _, i, hi, n', hn'⟩ := hmine b h
          exact hj i hi (hs.inv.inj _ _ b n' n hn' hb')
        · simp only [ydp] at h; omega
  have hren : ∀ id b n, id ∈ ids → lv2 (σ id) = some (b, n) → lv3 id = some (b, n) := fun id b n hi hb => by rwa [hlv2a id hi] at hb
  have hframe : ∀ (y : AV) (z : Value), (∀ i ∈ ids, ment (σ i) y = false) → Rel (ybi B ok0 lv w) w lv y z → Rel (ybi B ok0 lv2 w') w' lv2 y z := by
    intro y z hy hz
    refine (hz.relive fun j b n hb hm => ?_).keep hok2
    rcases hcase j with ⟨i, hi, rfl⟩ | hj
    · rw [hy i hi] at hm; cases hm
    · exact (hlv2b j hj b n hb).1
  refine ⟨u, lv2, he, ⟨⟨?_, hs.inv.ok0lt, fun j hj => ?_, fun i j b n m h1 h2 => ?_, fun j x hx => ?_⟩, hs.size, fun x y hy => ?_, hs.defers.same (fun g hg => (hstay g (Array.getElem?_eq_some_iff.1 hg).1 fun i hi n hn => (hs.inv.lvat hn).choose_spec.2.2.2.notDef hg).trans hg), hs.big, fun j b ws hN hj hcj hb => ?_⟩⟩
  · -- base
    refine ⟨hb3.os.trans hs.inv.base.os, hb3.tape.trans hs.inv.base.tape, hb3.output.trans hs.inv.base.output, Nat.le_trans hs.inv.base.size hsz, fun k hk hnl => ?_, hb3.glob, hs.inv.base.gsize, hs.inv.base.lentG, hs.inv.base.rdok⟩
    refine (hstay k (Nat.lt_of_lt_of_le hk hs.inv.base.size) fun i hi n hn => ?_).trans (hs.inv.base.block k hk hnl)
    obtain ⟨_, _, q1, _, _⟩ := hs.inv.lvat hn
    rcases q1 with q1 | q1
    · exact hnl q1
    · omega
  · -- dom
    rcases hcase j with ⟨i, hi, rfl⟩ | hj'
    · rw [hlv2a i hi]
      refine hi3.dom i ?_
      rw [hh1 i hi] at hj
      cases hq : hm' i with
      | none => rfl
      | some o => simp [hq] at hj
    · cases hq : lv2 j with
      | none => rfl
      | some q => obtain ⟨q1, q2⟩ := q; have := (hlv2b j hj' q1 q2 hq).2; simp [hj] at this
  · -- inj
    rcases hcase i with ⟨i', hi, rfl⟩ | hi <;> rcases hcase j with ⟨j', hj, rfl⟩ | hj
    · rw [hlv2a i' hi] at h1
      rw [hlv2a j' hj] at h2
      rw [hi3.inj i' j' b n m h1 h2]
    · rw [hlv2a i' hi] at h1
      have h2' := (hlv2b j hj _ m h2).1
      have := hs.inv.lvlt h2'
      rcases (hmine3 i' b n h1).2.2 with h | ⟨k, hk, n', h⟩
      · omega
      · exact absurd (hs.inv.inj _ _ b n' m h h2') (hj k hk)
    · rw [hlv2a j' hj] at h2
      have h1' := (hlv2b i hi _ n h1).1
      have := hs.inv.lvlt h1'
      rcases (hmine3 j' b m h2).2.2 with h | ⟨k, hk, n', h⟩
      · omega
      · exact absurd (hs.inv.inj _ _ b n' n h h1') (hi k hk)
    · exact hs.inv.inj i j b n m (hlv2b i hi _ n h1).1 (hlv2b j hj _ m h2).1
  · -- objects
    rcases hcase j with ⟨i, hi, rfl⟩ | hj
    · rw [hh1 i hi] at hx
      cases hq : hm' i with
      | none => simp [hq] at hx
      | some ob =>
        simp only [hq, Option.map_some, Option.some.injEq] at hx
        subst hx
        obtain ⟨b, n, q1, q2⟩ := hi3.obj i ob hq
        refine ⟨b, n, by rw [hlv2a i hi]; exact q1, ?_⟩
        cases b with
        | none =>
          simp only [yhn] at q2 ⊢
          rcases q2 with rfl | ⟨e, rfl⟩
          · exact .inl rfl
          · exact .inr ⟨e, rfl⟩
        | some b =>
          exact ⟨(hmine3 i b n q1).1, q2.2.1, yeo.ren hren (hro i ob hq) hok3 q2.2.2⟩
    · obtain ⟨hm1, ob, hob, hfo⟩ := hh2 j x hj hx
      obtain ⟨b, n, q1, q2⟩ := hs.inv.obj j ob hob
      have hlv2 : lv2 j = some (b, n) := by
        have hn : find j = none := by
          cases hq : find j with
          | none => rfl
          | some i => obtain ⟨h1, h2⟩ := hf1 _ _ hq; exact absurd h2 (hj i h1)
        simp [lv2, hn, hx, q1]
      refine ⟨b, n, hlv2, ?_⟩
      cases b with
      | none =>
        simp only [yhn] at q2 ⊢
        rcases hfo with rfl | ⟨_, _, rfl, _⟩ | ⟨_, _, _, rfl, _⟩
        · exact q2
        · simp at q2
        · simp at q2
      | some b =>
        obtain ⟨q3, q4, q5⟩ := q2
        have hbk : w'.heap[b]? = w.heap[b]? := hstay b q4 fun i hi n' hn' => hj i hi (hs.inv.inj _ _ b n' n hn' q1)
        refine ⟨q3, Nat.lt_of_lt_of_le q4 hsz, ?_⟩
        rcases hfo with rfl | ⟨zs, ys, rfl, rfl, hyl, hyz⟩ | ⟨te, zs, ys, rfl, rfl, hyl, hyz⟩
        · refine (q5.relive (lv' := lv2) fun k b' n' hb' hmk => ?_).keep hok2 hbk
          rcases hcase k with ⟨i, hi, rfl⟩ | hk
          · rw [hm1 i hi] at hmk; cases hmk
          · exact (hlv2b k hk b' n' hb').1
        · obtain ⟨c, e, g1, g2, g3, g4, g5⟩ := q5
          refine ⟨c, e, by rw [hbk]; exact g1, g2, by omega, fun y hy => ?_, fun k y z hy hz => ?_⟩
          · obtain ⟨k, hk⟩ := List.getElem?_of_mem hy
            obtain ⟨x, hx⟩ : ∃ x, zs[k]? = some x := ⟨_, List.getElem?_eq_getElem (by have := (List.getElem?_eq_some_iff.1 hk).1; omega)⟩
            rcases hyz k x y hx hk with rfl | rfl
            · exact g4 _ (List.mem_of_getElem? hx)
            · rfl
          · obtain ⟨x, hx⟩ : ∃ x, zs[k]? = some x := ⟨_, List.getElem?_eq_getElem (by have := (List.getElem?_eq_some_iff.1 hy).1; omega)⟩
            rcases hyz k x y hx hy with rfl | rfl
            · refine hframe _ z (fun i hi => ?_) (g5 k _ z hx hz)
              exact yes hy (hm1 i hi)
            · exact .one _ ((g5 k x z hx hz).oneCell (g4 x (List.mem_of_getElem? hx)))
        · obtain ⟨⟨c, e, g1, g2, g3, g4, g5⟩, hsh⟩ := q5
          refine ⟨⟨c, e, by rw [hbk]; exact g1, g2, by omega, fun y hy => ?_, fun k y z hy hz => ?_⟩, by rw [hyl]; exact (shape_of_block hbk).trans hsh⟩
          · obtain ⟨k, hk⟩ := List.getElem?_of_mem hy
            obtain ⟨x, hx⟩ : ∃ x, zs[k]? = some x := ⟨_, List.getElem?_eq_getElem (by have := (List.getElem?_eq_some_iff.1 hk).1; omega)⟩
            rcases hyz k x y hx hk with rfl | rfl
            · exact g4 _ (List.mem_of_getElem? hx)
            · rfl
          · obtain ⟨x, hx⟩ : ∃ x, zs[k]? = some x := ⟨_, List.getElem?_eq_getElem (by have := (List.getElem?_eq_some_iff.1 hy).1; omega)⟩
            rcases hyz k x y hx hy with rfl | rfl
            · refine hframe _ z (fun i hi => ?_) (g5 k _ z hx hz)
              exact yes hy (hm1 i hi)
            · exact .one _ ((g5 k x z hx hz).oneCell (g4 x (List.mem_of_getElem? hx)))
  · -- frame
    rcases ht x y hy with ⟨rfl, z, hz⟩ | ⟨hz, hk⟩
    · exact ⟨(hs.frame x z hz).1, .any _⟩
    · refine ⟨(hs.frame x y hz).1, ?_⟩
      have hold := (hs.frame x y hz).2
      rcases hk with hk | ⟨i, hi, off, o', rfl, hci, hcc⟩
      · exact hframe y _ hk hold
      · cases hold with
        | lp _ h1 h2 =>
          refine .lp _ h1 fun b n hb => ?_
          rw [hlv2a i hi] at hb
          obtain ⟨b', n', n'', p1, p2⟩ := hpin i o' hci hcc
          rw [hb] at p2
          cases p2
          exact h2 b n' (hl2 i _ n' p1)
  · -- pins
    rcases hcase j with ⟨i, hi, rfl⟩ | hj'
    · rw [hh1 i hi] at hj
      cases hq : hm' i with
      | none => simp [hq] at hj
      | some ob =>
        simp only [hq, Option.map_some, Option.some.injEq] at hj
        subst hj
        rw [renO_isC] at hcj
        obtain ⟨b', n', n'', p1, p2⟩ := hpin i ob hq hcj
        obtain ⟨zs, hz, hzc⟩ := hc.1 i ob hq hcj
        obtain ⟨n, hn⟩ := hs.pin (σ i) b _ hN (hmem i _ hz) (by rw [renO_isC]; exact hzc) hb
        rw [hl2 i _ n' p1] at hn
        cases hn
        exact ⟨n'', by rw [hlv2a i hi]; exact p2⟩
    · obtain ⟨_, ob, hys, hfo⟩ := hh2 j _ hj' hj
      have hcc : isC ob = true := by
        rcases hfo with rfl | ⟨xs', ys', rfl, _, _⟩ | ⟨e, xs', ys', rfl, _, _⟩
        · exact hcj
        · rfl
        · rfl
      obtain ⟨n, hn⟩ := hs.pin j b ob hN hys hcc hb
      obtain ⟨b2, n2, q1, _⟩ := hs.inv.obj j _ hys
      rw [hn] at q1
      cases q1
      have hn' : find j = none := by
        cases hq : find j with
        | none => rfl
        | some i => obtain ⟨h1, h2⟩ := hf1 _ _ hq; exact absurd h2 (hj' i h1)
      exact ⟨n, by simp [lv2, hn', hj, hn]⟩
end
def MarksIn (P : Program) (R : World → Prop) : List Deferred → World → Prop
  | [], w => R w
  | d :: ds, w => ∃ r w', d.target = .collected r ∧ (Instr.takeDeferred r).run P w = .ok [] w' ∧ MarksIn P R ds w'
theorem marks_steps {P : Program} {F : Fence} {n : Nat} {R : World → Prop} : ∀ (ds : List Deferred) (w : World) (fr : Frame) (cs : List Frame), fr.mode = .returning → fr.defers = ds → F.fn fr.fn → F.room (cs.length + 1 + n) → MarksIn P R ds w →
    ∃ w', R w' ∧ StepsIn (Machine.fenced P F) P (lone fr cs w) (lone { fr with defers := [] } cs w')
  | [], w, fr, cs, hm, hd, hF, hr, h => ⟨w, h, by rw [← hd]; exact StepsIn.refl _⟩
  | d :: ds, w, fr, cs, hm, hd, hF, hr, ⟨r, w1, h1, h2, h3⟩ => by
    have hs := step_collected (cs := cs) (by rw [hm]; simp) hd h1 h2
    have i1 : (lone fr cs w).fenced P F := fenced_out hF hr (by rw [hm]; simp) hd (fun g hg => by rw [h1] at hg; simp [Target.leads] at hg)
    obtain ⟨w2, g1, g2⟩ := marks_steps ds w1 { fr with defers := [] ++ ds } cs hm rfl hF hr h3
    exact ⟨w2, g1, .head i1 hs g2⟩
theorem callsDIn_of_wp_marks {P : Program} {F : Fence} {n : Nat} {f : FuncId} {fn : Func} {c : Code} {args : Array Value} {u : FrameMode} {w : World} {R : Ending → World → Prop} (hf : P.funcs[f]? = some fn) (hb : fn.body = some c) (hF : F.fn f)
    (h : c.wpIn F n P (fun e a w' => (e = .normal ∨ e = .ret) ∧ MarksIn P (fun w2 => ∃ v, (results fn a.tmps).run P w2 = .ok v w2 ∧ R (.returned v) w2) a.defers w') { tmps := args ++ Array.replicate (fn.ntmps - args.size) undef, defers := [] } w) (hro : F.round = none := by rfl) :
    CallsDIn F n P f args u w fun e u' w' => u' = u ∧ R e w' := by
  refine ⟨hF, fun c₀ cs hu hr => ?_⟩
  let b : Frame := { (default : Frame) with fn := f, kind := .deferred, roundOf := none }
  have henter : Frame.enter P f args .deferred =
      b.atR { tmps := args ++ Array.replicate (fn.ntmps - args.size) undef, defers := [] } [.code c] := by
    simp [Frame.enter, Frame.atR, hf, hb, b]
  have hc : ({ c₀ with mode := u } : Frame) = c₀ := by subst hu; rfl
  obtain ⟨e, a', w', ⟨he, hq⟩, harr⟩ := h b [] (c₀ :: cs) hro.symm hF hr
  rw [← henter] at harr
  rcases he with rfl | rfl
  · obtain ⟨w2, ⟨v, g1, g2⟩, g3⟩ := marks_steps (F := F) (n := n) a'.defers w' { b.atR a' [] with mode := .returning } (c₀ :: cs) rfl rfl hF hr hq
    exact ⟨.returned v, u, w2, _, ⟨rfl, g2⟩, (by rw [hc]; exact StepsIn.trans (StepsIn.trans harr (.one (fenced_calm (fr := b.atR a' []) hF hr rfl) (stepR_end rfl))) g3), rfl, rfl, rfl, rfl, fn, hf, g1⟩
  · obtain ⟨todo, hs⟩ := harr.1 rfl
    obtain ⟨w2, ⟨v, g1, g2⟩, g3⟩ := marks_steps (F := F) (n := n) a'.defers w' { b.atR a' todo with mode := .returning } (c₀ :: cs) rfl rfl hF hr hq
    exact ⟨.returned v, u, w2, _, ⟨rfl, g2⟩, (by rw [hc]; exact StepsIn.trans hs g3), rfl, rfl, rfl, rfl, fn, hf, g1⟩
theorem marks_in {P : Program} {Rw : World → Prop} {B : Bse} {ok0 : Nat → Prop} {N : Nat} {s : SS} {lv : Live} {tm : Array Value} (hB : B.dl = []) (fin : ∀ (a : Act) (w : World), a.tmps = tm → Sim B ok0 N s lv a w → Rw w) : ∀ (ms : List Deferred) (a : Act) (w : World), a.tmps = tm → a.defers = ms → Sim B ok0 N s lv a w → MarksIn P Rw ms w
  | [], a, w, ht, hm, hs => fin a w ht hs
  | d :: ms, a, w, ht, hm, hs => by
    obtain ⟨ms', h1, hn, h2⟩ := hs.defers
    rw [hB, List.append_nil, hm] at h1
    subst h1
    obtain ⟨D, hd, hD, hge⟩ := h2 d (by simp)
    refine ⟨D, _, by rw [hd], run_takeDeferred hD, ?_⟩
    simp only [List.nodup_cons] at hn
    have hsh := Shut.put hD
    have hs' := hs.shut hsh (fun k hk => World.putObj_heap_other (by omega)) (l := ms) ⟨ms, by rw [hB, List.append_nil], hn.2, fun d' hd' => by
      obtain ⟨D', e1, e2, e3⟩ := h2 d' (by simp [hd'])
      refine ⟨D', e1, (World.putObj_heap_other fun e => ?_).trans e2, e3⟩
      subst e
      exact hn.1 (by rw [hd, ← e1]; exact hd')⟩
    exact marks_in hB fin ms { a with defers := ms } _ ht rfl hs'
def bM (w : World) (lv : Live) : Bse := ⟨w, yhl lv, fun id => (lv id).bind (·.1), none, [], fun _ => undef⟩
theorem entryM {N n : Nat} {args : List AV} {hs : Nat → Option LObj} {ok0 : Nat → Prop} {lv : Live} {w : World} {us : List Value} (hN : n = N) (hlen : (Nat.ble args.length N && Nat.ble N 1000000) = true) (hi : Inv (ydp w lv) ok0 hs lv w) (hus : ybr (ybi (ydp w lv) ok0 lv w) w lv args us) :
    Sim (bM w lv) ok0 N ⟨ybb (yfd 0 args), hs⟩ lv { tmps := us.toArray ++ Array.replicate (n - us.toArray.size) undef, defers := [] } w := by
  simp only [Bool.and_eq_true, Nat.ble_eq] at hlen
  obtain ⟨hlen', hbig⟩ := hlen
  refine ⟨hi.pinned _ _ _ _ (fun l h => by cases h), ?_, fun x y hy => ?_, ⟨[], rfl, List.nodup_nil, fun d hd => by cases hd⟩, hbig, fun id b o hN hx hc hb => ?_⟩
  · simp [hN, hus.1]; omega
  · simp only [enumF_args] at hy
    have hlt := (List.getElem?_eq_some_iff.1 hy).1
    refine ⟨.inl (by omega), ?_⟩
    rw [yev, if_pos (by omega)]
    obtain ⟨u, hu⟩ : ∃ u, us[x]? = some u := ⟨_, List.getElem?_eq_getElem (by rw [hus.1]; exact hlt)⟩
    simp only [getD_args us _ x u hu]
    exact hus.2 x y u hy hu
  · simp only [bM] at hb
    cases hl : lv id with
    | none => simp [hl] at hb
    | some q => obtain ⟨q1, q2⟩ := q; simp [hl] at hb; subst hb; exact ⟨q2, rfl⟩
theorem finM {P : Program} {T : Nat → Option Ty} (hT : TOK P T) {fn : Func} {N : Nat} {rs : List ResultVar} {r x : AV} {hs hs' : Nat → Option LObj} {ok0 : Nat → Prop} {lv lv' : Live} {w w' : World} {s' : SS} {a' : Act} (hrs : fn.results = rs.toArray) (hcl : ∀ id o, hs' id = some o → isC o = true → N ≤ id ∧ ∃ o', hs id = some o' ∧ isC o' = true)
    (hi : Inv (ydp w lv) ok0 hs lv w) (hs2 : Sim (bM w lv) ok0 N s' lv' a' w') (hx : yjf T s' rs = some x) (hwk : Wk x r) (hsub : ∀ id o, hs' id = some o → s'.h id = some o) :
    ∃ v, (results fn a'.tmps).run P w' = .ok v w' ∧ ∃ u lv2, Ending.returned v = .returned u ∧ Rel (ybi (ydp w lv) ok0 lv2 w') w' lv2 r u ∧ Inv (ydp w lv) ok0 hs' lv2 w' ∧ ∀ id o, hs' id = some o → isC o = true → ∃ b n n', lv id = some (some b, n) ∧ lv2 id = some (some b, n') := by
  obtain ⟨u, hu, hrun⟩ := resAT_run (P := P) hT hs2 hrs hx
  obtain ⟨lv2, i1, i2, i3⟩ := hs2.inv.weak hsub
  refine ⟨u, hrun, u, lv2, rfl, hwk.rel _ _ _ _ ((hu.relive fun id b n hb _ => i2 id b n hb).keep fun g hg => ⟨i3 g hg, rfl⟩), i1.pinned _ _ _ _ (fun l h => by cases h), fun id o hx hc => ?_⟩
  obtain ⟨h1, o', hy, hc'⟩ := hcl id o hx hc
  obtain ⟨b, n, hb, ho⟩ := hi.obj id _ hy
  cases b with
  | none => simp only [yhn] at ho; rcases ho with rfl | ⟨e, rfl⟩ <;> cases hc'
  | some b =>
    obtain ⟨n', hn'⟩ := hs2.pin id b o h1 (hsub id _ hx) hc (by simp [bM, hb])
    obtain ⟨b2, n2, hb2, _⟩ := i1.obj id _ hx
    have := i2 id b2 n2 hb2
    rw [hn'] at this
    cases this
    exact ⟨b, n, _, hb, hb2⟩
theorem conKD_of {P : Program} {T : Nat → Option Ty} (hT : TOK P T) {f : FuncId} {fn : Func} {c : Code} {N : Nat} {rs : List ResultVar} {args : List AV} {hs hs' : Nat → Option LObj} {r : AV} (u : FrameMode) (hf : P.funcs[f]? = some fn) (hb : fn.body = some c) (hN : fn.ntmps = N) (hrs : fn.results = rs.toArray) (hlen : (Nat.ble args.length N && Nat.ble N 1000000) = true)
    (hcl : ∀ id o, hs' id = some o → isC o = true → N ≤ id ∧ ∃ o', hs id = some o' ∧ isC o' = true) (h : A P N c (EndsM T rs r hs') ⟨ybb (yfd 0 args), hs⟩) : ylj (KD P f u u) args hs r hs' := by
  refine ⟨fun id o hx hc => (hcl id o hx hc).2, fun ok0 lv w us hi hus => callsDIn_of_wp_marks hf hb trivial ?_⟩
  refine wpIn_mono (h _ ok0 _ _ w (entryM hN hlen hi hus)) fun e a' w' ⟨s', lv', hq, hs2⟩ => ?_
  cases e with
  | normal => obtain ⟨x, hx, h1, h2⟩ := hq; exact ⟨.inl rfl, marks_in (B := bM w lv) (tm := a'.tmps) rfl (fun a2 w2 ht hs3 => by have := finM hT hrs hcl hi hs3 hx h1 h2 (fn := fn); rwa [ht] at this) _ a' w' rfl rfl hs2⟩
  | ret => obtain ⟨x, hx, h1, h2⟩ := hq; exact ⟨.inr rfl, marks_in (B := bM w lv) (tm := a'.tmps) rfl (fun a2 w2 ht hs3 => by have := finM hT hrs hcl hi hs3 hx h1 h2 (fn := fn); rwa [ht] at this) _ a' w' rfl rfl hs2⟩
  | _ => exact hq.elim
def bD (B : Bse) (lv : Live) (w : World) (dl : List Deferred) (gv : Nat → Value) : Bse := ⟨w, yhl lv, B.pin, none, dl, gv⟩
theorem Sim.rebase {B : Bse} {ok0 : Nat → Prop} {N : Nat} {s : SS} {lv : Live} {a : Act} {w : World} (hs : Sim B ok0 N s lv a w) (hlow : ∀ x, 1000000 ≤ x → s.t x = none) (gv : Nat → Value) : Sim (bD B lv w a.defers gv) (ybi B ok0 lv w) N s lv a w := by
  have hm : ∀ b, yhl lv b → B.mine b ∧ b < w.heap.size := by
    rintro b ⟨id, n, hb⟩
    obtain ⟨_, _, h4, h5, _⟩ := hs.inv.lvat hb
    exact ⟨h4, h5⟩
  have hok : ∀ g, ybi B ok0 lv w g → ybi (bD B lv w a.defers gv) (ybi B ok0 lv w) lv w g := fun g hg => ⟨.inl hg, hg.2.1, hg.2.2⟩
  refine ⟨⟨⟨rfl, rfl, rfl, Nat.le_refl _, fun _ _ _ => rfl, hs.inv.base.glob, hs.inv.base.glob.size, fun k hk => hs.inv.base.mineG (hm k hk).1, fun l h => by cases h⟩, fun g hg => hg.2.1, hs.inv.dom, hs.inv.inj, fun id x hx => ?_⟩, hs.size, fun x y hy => ?_, ⟨[], rfl, List.nodup_nil, fun d hd => by cases hd⟩, hs.big, hs.pin⟩
  · obtain ⟨b, n, h1, h2⟩ := hs.inv.obj id x hx
    refine ⟨b, n, h1, ?_⟩
    cases b with
    | none => exact h2
    | some b => exact ⟨.inl ⟨id, n, h1⟩, h2.2.1, h2.2.2.keep (fun g hg => ⟨hok g hg, rfl⟩) rfl⟩
  · obtain ⟨h1, h2⟩ := hs.frame x y hy
    refine ⟨h1, ?_⟩
    have hlt : x < 1000000 := by
      rcases Nat.lt_or_ge x 1000000 with h | h
      · exact h
      · rw [hlow x h] at hy; cases hy
    have e : yev (bD B lv w a.defers gv) a x = yev B a x := by simp [yev, hlt]
    rw [e]
    exact h2.keep fun g hg => ⟨hok g hg, rfl⟩
theorem Sim.unbase {B : Bse} {ok0 : Nat → Prop} {N : Nat} {s s' : SS} {lv lv' : Live} {a a' : Act} {w w' : World} {dl ds : List Deferred} {gv : Nat → Value} (hs : Sim B ok0 N s lv a w) (hrd : B.rd = none) (hs' : Sim (bD B lv w dl gv) (ybi B ok0 lv w) N s' lv' a' w') (hds : yju B w' ds) (hlow : ∀ x, 1000000 ≤ x → s'.t x = none) : Sim B ok0 N s' lv' { a' with defers := ds } w' := by
  have hm : ∀ b, yhl lv b → B.mine b := by
    rintro b ⟨id, n, hb⟩
    obtain ⟨_, _, h4, h5, _⟩ := hs.inv.lvat hb
    exact h4
  have hmine : ∀ g, (bD B lv w dl gv).mine g → B.mine g := by
    rintro g (h | h)
    · exact hm g h
    · exact .inr (Nat.le_trans hs.inv.base.size h)
  have hok : ∀ g, ybi (bD B lv w dl gv) (ybi B ok0 lv w) lv' w' g → ybi B ok0 lv' w' g := fun g hg => ⟨by
    rcases hg.1 with h | h
    · exact h.1
    · exact .inr (hmine g h), hg.2.1, hg.2.2⟩
  have hb := hs'.inv.base
  have hw := hs.inv.base
  refine ⟨⟨⟨hb.os.trans hw.os, hb.tape.trans hw.tape, hb.output.trans hw.output, Nat.le_trans hw.size hb.size, fun k hk hnl => ?_, hb.glob, hw.gsize, hw.lentG, fun l h => by rw [hrd] at h; cases h⟩, hs.inv.ok0lt, hs'.inv.dom, hs'.inv.inj, fun id x hx => ?_⟩, hs'.size, fun x y hy => ?_, hds, hs'.big, hs'.pin⟩
  · refine (hb.block k (Nat.lt_of_lt_of_le hk hw.size) fun h => ?_).trans (hw.block k hk hnl)
    rcases hm k h with h | h
    · exact hnl h
    · omega
  · obtain ⟨b, n, h1, h2⟩ := hs'.inv.obj id x hx
    refine ⟨b, n, h1, ?_⟩
    cases b with
    | none => exact h2
    | some b => exact ⟨hmine b h2.1, h2.2.1, h2.2.2.keep (fun g hg => ⟨hok g hg, rfl⟩) rfl⟩
  · obtain ⟨h1, h2⟩ := hs'.frame x y hy
    refine ⟨h1, ?_⟩
    have hlt : x < 1000000 := by
      rcases Nat.lt_or_ge x 1000000 with h | h
      · exact h
      · rw [hlow x h] at hy; cases hy
    have e : yev (bD B lv w dl gv) a' x = yev B { a' with defers := ds } x := by simp [yev, hlt]
    rw [e] at h2
    exact h2.keep fun g hg => ⟨hok g hg, rfl⟩
theorem leaves_marksD {P : Program} {fn : Func} {R : Ending → World → Prop} {B : Bse} {ok0 : Nat → Prop} {N n : Nat} {s : SS} {lv : Live} {u : FrameMode} (hu : u ≠ .run) {tm : Array Value}
    (fin : ∀ (a : Act) (w : World), a.tmps = tm → Sim B ok0 N s lv a w → LeavesInM Fence.wide n P fn tm R B.dl u w) : ∀ (ms : List Deferred) (a : Act) (w : World), a.tmps = tm → a.defers = ms ++ B.dl → ms.Nodup →
      (∀ d ∈ ms, ∃ D, d = { target := .collected D, args := #[] } ∧ w.heap[D]? = some (.deferred (some [])) ∧ B.w.heap.size ≤ D) → Sim B ok0 N s lv a w → LeavesInM Fence.wide n P fn tm R (ms ++ B.dl) u w
  | [], a, w, ht, hd, hn, h2, hs => fin a w ht hs
  | d :: ms, a, w, ht, hd, hn, h2, hs => by
    obtain ⟨D, hdd, hD, hge⟩ := h2 d (by simp)
    refine ⟨hu, .inl ⟨D, _, by rw [hdd], run_takeDeferred hD, ?_⟩⟩
    simp only [List.nodup_cons] at hn
    have hsh := Shut.put hD
    have hrest : ∀ d' ∈ ms, ∃ D', d' = { target := .collected D', args := #[] } ∧ (w.putObj D (.deferred none)).heap[D']? = some (.deferred (some [])) ∧ B.w.heap.size ≤ D' := fun d' hd' => by
      obtain ⟨D', e1, e2, e3⟩ := h2 d' (by simp [hd'])
      refine ⟨D', e1, (World.putObj_heap_other fun e => ?_).trans e2, e3⟩
      subst e
      exact hn.1 (by rw [hdd, ← e1]; exact hd')
    have hs' := hs.shut hsh (fun k hk => World.putObj_heap_other (by omega)) (l := ms ++ B.dl) ⟨ms, rfl, hn.2, hrest⟩
    exact leaves_marksD hu fin ms { a with defers := ms ++ B.dl } _ ht rfl hn.2 hrest hs'
def PostF (P : Program) (N : Nat) (B : Bse) (ok0 : Nat → Prop) (Q : Option (FuncId × Nat) → Exit → SS → Prop) (e : Exit) (a' : Act) (w' : World) : Prop :=
  (∃ s' lv', Q none e s' ∧ Sim B ok0 N s' lv' a' w') ∨
  ∃ (g : FuncId) (vs : List Value) (d : Deferred) (s0 : SS) (lv0 : Live) (a0 : Act) (w0 : World) (s' : SS) (lv' : Live), Sim B ok0 N s0 lv0 a0 w0 ∧ (∃ fv cap, d.target = .fn fv cap ∧ ∀ w, (invoke (.fn fv cap) d.args).run P w = .ok (.enter g vs.toArray) w) ∧
    Q (some (g, vs.length)) e s' ∧ Sim (bD B lv0 w0 (d :: a0.defers) (fun x => vs.getD (x - 1000000) undef)) (ybi B ok0 lv0 w0) N s' lv' a' w'
def AF (P : Program) (N : Nat) (c : Code) (Q : Option (FuncId × Nat) → Exit → SS → Prop) (s : SS) : Prop :=
  ∀ (B : Bse) (ok0 : Nat → Prop) (lv : Live) (a : Act) (w : World), B.rd = none → B.dl = [] → Sim B ok0 N s lv a w → c.wpIn Fence.wide 0 P (PostF P N B ok0 Q) a w
section
variable {P : Program} {N : Nat} {Q : Option (FuncId × Nat) → Exit → SS → Prop} {s : SS}
theorem ydy {c : Code} (h : A P N c (Q none) s) : AF P N c Q s := fun B ok0 lv a w hrd hdl hs => by
  have := h B ok0 lv a w hs
  rw [hrd] at this
  exact wpIn_mono this fun e a' w' ⟨s', lv', h1, h2⟩ => .inl ⟨s', lv', h1, h2⟩
def ThenF (P : Program) (N : Nat) (y : Code) (Q : Option (FuncId × Nat) → Exit → SS → Prop) : Option (FuncId × Nat) → Exit → SS → Prop
  | none, .normal, s => AF P N y Q s
  | some D, .normal, s => A P N y (Q (some D)) s
  | D, e, s => Q D e s
theorem yej {x y : Code} (h : AF P N x (ThenF P N y Q) s) : AF P N (.seq x y) Q s := by
  intro B ok0 lv a w hrd hdl hs
  refine wpIn_seq (wpIn_mono (h B ok0 lv a w hrd hdl hs) fun e a' w' hp => ?_)
  rcases hp with ⟨s', lv', h1, h2⟩ | ⟨g, vs, d, s0, lv0, a0, w0, s', lv', p1, p2, p3, p4⟩
  · cases e with
    | normal => exact h1 B ok0 lv' a' w' hrd hdl h2
    | _ => exact .inl ⟨s', lv', h1, h2⟩
  · cases e with
    | normal => exact wpIn_mono (p3 _ _ lv' a' w' p4) fun e a2 w2 ⟨s2, lv2, q1, q2⟩ => .inr ⟨g, vs, d, s0, lv0, a0, w0, s2, lv2, p1, p2, q1, q2⟩
    | _ => exact .inr ⟨g, vs, d, s0, lv0, a0, w0, s', lv', p1, p2, p3, p4⟩
theorem AF_cond {c : Operand} {x y : Code} {b : Bool} (hc : evF s.t c = some (.v (.bool b))) (h1 : b = true → AF P N x Q s) (h2 : b = false → AF P N y Q s) : AF P N (.cond c x y) Q s := by
  intro B ok0 lv a w hrd hdl hs
  refine wpIn_cond (t := b) (rel_bool (hs.eval hc)) ?_
  cases b with
  | true => exact h1 rfl B ok0 lv a w hrd hdl hs
  | false => exact h2 rfl B ok0 lv a w hrd hdl hs
theorem lex_opsK2 {ops : Array Oper} {lf : Oper → Bool} {Q : SS → Prop} {B : Bse} {ok0 : Nat → Prop} {Q' : Exit → Act → World → Prop} {n : Nat} {rest : List Nat} (hQ : ∀ s lv a w, Q s → Sim B ok0 N s lv a w → wpOpsIn (FW B.rd) n P ops Q' rest a w) {l : List Oper} {s : SS}
    (h : Lex P N ops lf Q l s) : yex l = true → ∀ (k : Nat), (∀ (j : Nat) (o : Oper), l[j]? = some o → ops[k + j]? = some o) → ∀ (lv : Live) (a : Act) (w : World), Sim B ok0 N s lv a w → wpOpsIn (FW B.rd) n P ops Q' (List.range' k l.length ++ rest) a w := by
  induction h with
  | nil h => intro hnd k hl lv a w hs; exact hQ _ lv a w h hs
  | @calm o l s r hw hd hy k ih =>
    intro hnd k hl lv a w hs
    simp only [yex, List.all_cons, Bool.and_eq_true, Bool.not_eq_true'] at hnd
    have h0 : ops[k]? = some o := by simpa using hl 0 o rfl
    simp only [List.length_cons, List.range'_succ, List.cons_append, wpOpsIn, h0, hs.wanted hw, if_true]
    exact yhh hnd.1 (yield_wp hs hd hy Q' fun a' w' hs' => ih hnd.2 (k + 1) (fun j o' ho' => by have := hl (j + 1) o' (by simpa using ho'); rwa [show k + (j + 1) = k + 1 + j by omega] at this) lv a' w' hs')
  | @skip o l s hw hd k ih =>
    intro hnd k hl lv a w hs
    simp only [yex, List.all_cons, Bool.and_eq_true, Bool.not_eq_true'] at hnd
    have h0 : ops[k]? = some o := by simpa using hl 0 o rfl
    simp only [List.length_cons, List.range'_succ, List.cons_append, wpOpsIn, h0, hs.wanted hw, Bool.false_eq_true, if_false]
    exact ⟨fun _ _ => trivial, ih hnd.2 (k + 1) (fun j o' ho' => by have := hl (j + 1) o' (by simpa using ho'); rwa [show k + (j + 1) = k + 1 + j by omega] at this) lv _ w (hs.put hd hs.inv (Below.refl _ _) (.v _))⟩
  | @loud o l s R hl' hw hy k ih =>
    intro hnd k hl lv a w hs
    simp only [yex, List.all_cons, Bool.and_eq_true, Bool.not_eq_true'] at hnd
    have h0 : ops[k]? = some o := by simpa using hl 0 o rfl
    simp only [List.length_cons, List.range'_succ, List.cons_append, wpOpsIn, h0, hs.wanted hw, if_true]
    refine yhh hnd.1 (Oper.wp_mono (fun a' w' ⟨s', lv', hR, hs'⟩ => ?_) (hy B ok0 lv a w hs Q'))
    exact ih s' hR hnd.2 (k + 1) (fun j o' ho' => by have := hl (j + 1) o' (by simpa using ho'); rwa [show k + (j + 1) = k + 1 + j by omega] at this) lv' a' w' hs'
  | @split l s d b hb k ih =>
    intro hnd k hl lv a w hs
    refine ih b rfl hnd k hl lv a w ?_
    rw [yfw hb]
    exact hs
theorem AF_region_defer {lf : Oper → Bool} {id : Nat} {l : List Oper} (k : Nat) {o : Oper} {l1 l2 : List Oper} {g : Operand} {args : List Operand} {ats : Array TypeId} (hk : l[k]? = some o) (h1 : l.take k = l1) (h2 : l.drop (k + 1) = l2) (hn1 : yex l1 = true) (hn2 : yex l2 = true) (ho : o.op = .defer { callee := .value g, args := args.toArray, argTypes := ats }) (hdst : yjl N o)
    (h : Lex P N l.toArray lf (fun s1 => yaz l.toArray s1.t o = some true ∧ ∃ f caps xs, HasBody P f ∧ evF s1.t g = some (.fn f caps) ∧ evL (evF s1.t) args = some xs ∧ (∀ x, 1000000 ≤ x → s1.t x = none) ∧
      Lex P N l.toArray lf (Q (some (f, xs.length + caps.length)) .normal) l2 ⟨fun x => if 1000000 ≤ x then (xs ++ caps)[x - 1000000]? else ygh s1.t o.dst (.v undef) x, s1.h⟩) l1 s) : AF P N (.region id l.toArray false) Q s := by
  intro B ok0 lv a w hrd hdl hs
  have hlt := (List.getElem?_eq_some_iff.1 hk).1
  have hlen : l1.length = k := by rw [← h1, List.length_take]; omega
  have hlen2 : l2.length = l.length - k - 1 := by rw [← h2, List.length_drop]; omega
  have hFW : FW B.rd = Fence.wide := by rw [hrd]; rfl
  refine wpIn_region ?_
  have hsp : List.range l.toArray.size = List.range' 0 l1.length ++ (k :: (List.range' (k + 1) l2.length ++ [])) := by
    rw [List.append_nil, List.size_toArray, List.range_eq_range', hlen, hlen2]
    have e : l.length = k + ((l.length - k - 1) + 1) := by omega
    conv => lhs; rw [e]
    rw [← List.range'_append_1, Nat.zero_add, List.range'_succ]
  rw [hsp, ← hFW]
  refine lex_opsK2 (fun s1 lv1 a1 w1 hq hs1 => ?_) h hn1 0 (fun j o' ho' => ?_) lv a w hs
  · have h0 : l.toArray[k]? = some o := by simpa using hk
    obtain ⟨hwt, f, caps, xs, hbody, hg, hx, hlow, hlex⟩ := hq
    simp only [wpOpsIn, h0, hs1.wanted hwt, if_true]
    have hfr := hs1.eval hg
    have har := evL_rel (a := a1) args xs (fun x y _ hxy => hs1.eval hxy) hx
    generalize hv : a1.eval g = v at hfr
    cases hfr with
    | fn vs hl hrc =>
    let d : Deferred := { target := .fn (.func f) vs.toArray, args := (args.map a1.eval).toArray }
    have hrun : (o.semAt (FW B.rd).round a1.eval).run P w1 = .ok (.defer d) w1 := by
      rw [hFW]
      unfold Oper.semAt execOp
      simp only [ho, Fence.wide, resolve, Deferred.ofValue, hv, Sem.run_bind, Sem.run_pure, Result.andThen_ok]
      simp [d]
    refine ⟨fun _ _ => by rw [hFW]; trivial, ?_⟩
    rw [hrun, Oper.uponIn_defer]
    let gv : Nat → Value := fun x => (args.map a1.eval ++ vs).getD (x - 1000000) undef
    have hreb := hs1.rebase hlow gv
    have hsim : Sim (bD B lv1 w1 (d :: a1.defers) gv) (ybi B ok0 lv1 w1) N ⟨fun x => if 1000000 ≤ x then (xs ++ caps)[x - 1000000]? else ygh s1.t o.dst (.v undef) x, s1.h⟩ lv1 ({ a1 with defers := d :: a1.defers }.put o.dst undef) w1 := by
      refine ⟨hreb.inv.pinned _ none _ _ (fun l h => by cases h), ?_, fun x y hy => ?_, ⟨[], ?_, List.nodup_nil, fun d hd => by cases hd⟩, hs1.big, hs1.pin⟩
      · cases hd : o.dst <;> simp [Act.put, hs1.size]
      · simp only at hy
        split at hy
        · rename_i hge
          refine ⟨.inr hge, ?_⟩
          have e : yev (bD B lv1 w1 (d :: a1.defers) gv) ({ a1 with defers := d :: a1.defers }.put o.dst undef) x = gv x := by simp only [yev]; rw [if_neg (by omega)]; rfl
          rw [e]
          have hval : ∃ u, (args.map a1.eval ++ vs)[x - 1000000]? = some u ∧ Rel (ybi B ok0 lv1 w1) w1 lv1 y u := by
            by_cases hxl : x - 1000000 < xs.length
            · rw [List.getElem?_append_left hxl] at hy
              have hl2 : x - 1000000 < (args.map a1.eval).length := by rw [har.1]; exact hxl
              exact ⟨(args.map a1.eval)[x - 1000000], by rw [List.getElem?_append_left hl2, List.getElem?_eq_getElem hl2], har.2 _ y _ hy (List.getElem?_eq_getElem hl2)⟩
            · rw [List.getElem?_append_right (by omega)] at hy
              have hl2 : x - 1000000 - xs.length < vs.length := by have := (List.getElem?_eq_some_iff.1 hy).1; rw [hl]; exact this
              exact ⟨vs[x - 1000000 - xs.length], by rw [List.getElem?_append_right (by rw [har.1]; omega), har.1, List.getElem?_eq_getElem hl2], hrc _ y _ hy (List.getElem?_eq_getElem hl2)⟩
          obtain ⟨u, hu1, hu2⟩ := hval
          have : gv x = u := by simp only [gv, List.getD_eq_getElem?_getD, hu1, Option.getD_some]
          rw [this]
          exact hu2.keep fun g hg => ⟨⟨.inl hg, hg.2.1, hg.2.2⟩, rfl⟩
        · rename_i hge
          have hput := (hreb.put (d := o.dst) (u := undef) hdst hreb.inv (Below.refl _ _) (.v _)).frame x y hy
          refine ⟨hput.1, ?_⟩
          have e : yev (bD B lv1 w1 (d :: a1.defers) gv) ({ a1 with defers := d :: a1.defers }.put o.dst undef) x = yev (bD B lv1 w1 a1.defers gv) (a1.put o.dst undef) x := by
            simp only [yev]
            rw [if_pos (by omega), if_pos (by omega)]
            cases o.dst <;> rfl
          rw [e]
          exact hput.2
      · cases hd : o.dst <;> rfl
    have hrest := lex_opsK2 (B := bD B lv1 w1 (d :: a1.defers) gv) (ok0 := ybi B ok0 lv1 w1) (Q' := PostF P N B ok0 Q) (n := 0) (rest := []) (fun s2 lv2 a2 w2 hq2 hs2 => ?_) hlex hn2 (k + 1) (fun j o' ho' => ?_) lv1 _ w1 hsim
    · rw [hFW]; exact hrest
    · refine .inr ⟨f, args.map a1.eval ++ vs, d, s1, lv1, a1, w1, s2, lv2, hs1, ⟨.func f, vs.toArray, rfl, fun w => ?_⟩, ?_, hs2⟩
      · simp only [invoke, d]
        rw [run_callFunc hbody]
        simp
      · rw [List.length_append, har.1, hl]; exact hq2
    · rw [← h2, List.getElem?_drop] at ho'
      simpa using ho'
  · rw [← h1, List.getElem?_take] at ho'
    split at ho'
    · rw [Nat.zero_add]; simpa using ho'
    · cases ho'
def modeOf : Exit → Option FrameMode
  | .normal => some .returning
  | .ret => some .returning
  | .panic ch => some (.panicking ch)
  | _ => none
def EndsD (P : Program) (T : Nat → Option Ty) (rs : List ResultVar) (r : AV) (hs' : Nat → Option LObj) : Option (FuncId × Nat) → Exit → SS → Prop
  | none, e, s => EndsM T rs r hs' e s
  | some (g, n), e, s => ∃ (u u' : FrameMode) (args0 : List AV) (hm : Nat → Option LObj) (v : AV) (hm' : Nat → Option LObj) (σ : Nat → Nat) (ids : List Nat) (s2 : SS), modeOf e = some u ∧ settle u' = .returning ∧ args0.length = n ∧ (∀ i x, args0[i]? = some x → s.t (1000000 + i) = some (yey σ x)) ∧ ylj (KD P g u u') args0 hm v hm' ∧
      ((∀ i ∈ ids, ∀ j ∈ ids, σ i = σ j → i = j) ∧ (∀ id, (hm id).isSome → id ∈ ids) ∧ (∀ id, (hm' id).isSome → id ∈ ids) ∧ (∀ id o, hm id = some o → s.h (σ id) = some (yjs σ o)) ∧ (∀ id o, hm' id = some o → yjw ids o = true) ∧
        (∀ x y, s2.t x = some y → (y = .any ∧ ∃ z, s.t x = some z) ∨ (s.t x = some y ∧ Kept σ ids hm' y)) ∧ (∀ i ∈ ids, s2.h (σ i) = (hm' i).map (yjs σ)) ∧ ∀ j ob', (∀ i ∈ ids, σ i ≠ j) → s2.h j = some ob' → (∀ i ∈ ids, yfe (σ i) ob' = false) ∧ ∃ ob, s.h j = some ob ∧ yhm ob ob') ∧
      (∀ x, 1000000 ≤ x → s2.t x = none) ∧ ∃ x, yjf T s2 rs = some x ∧ Wk x r ∧ ∀ id o, hs' id = some o → s2.h id = some o
theorem conM_ofD {T : Nat → Option Ty} (hT : TOK P T) {f : FuncId} {fn : Func} {c : Code} {rs : List ResultVar} {args : List AV} {hs hs' : Nat → Option LObj} {r : AV} (hf : P.funcs[f]? = some fn) (hn : (fn.name == "runtime.NumGoroutine") = false) (hb : fn.body = some c) (hN : fn.ntmps = N) (hrs : fn.results = rs.toArray) (hlen : (Nat.ble args.length N && Nat.ble N 1000000) = true)
    (hcl : ∀ id o, hs' id = some o → isC o = true → N ≤ id ∧ ∃ o', hs id = some o' ∧ isC o' = true) (h : AF P N c (EndsD P T rs r hs') ⟨ybb (yfd 0 args), hs⟩) : yia P f args hs r hs' := by
  refine ⟨⟨fn, hf, hn, by simp [hb]⟩, fun id o hx hc => (hcl id o hx hc).2, fun ok0 lv w us hi hus => ?_⟩
  refine (callsIn_wide (n := 0)).1 (callsIn_of_wp_marks hf hb trivial ?_)
  refine wpIn_mono (h _ ok0 _ _ w rfl rfl (entryM hN hlen hi hus)) fun e a' w' hp => ?_
  rcases hp with ⟨s', lv', hq, hs2⟩ | ⟨g, vs, d, s0, lv0, a0, w0, s', lv', p1, ⟨fv, cap, p2, p3⟩, ⟨u, u', args0, hm, v, hm', σ, ids, s2, q1, q2, q3, q4, q5, ⟨c1, c2, c3, c4, c5, c6, c7, c8⟩, q6, x, q7, q8, q9⟩, p4⟩
  · cases e with
    | normal => obtain ⟨x, hx, h1, h2⟩ := hq; exact ycz rfl rfl (fun a2 w2 hs3 => finM hT hrs hcl hi hs3 hx h1 h2) _ a' w' rfl hs2
    | ret => obtain ⟨x, hx, h1, h2⟩ := hq; exact ycz rfl rfl (fun a2 w2 hs3 => finM hT hrs hcl hi hs3 hx h1 h2) _ a' w' rfl hs2
    | _ => exact hq.elim
  have hu : u ≠ .run := by
    cases e <;> simp only [modeOf, Option.some.injEq] at q1 <;> first | (subst q1; simp) | cases q1
  have main : LeavesInM Fence.wide 0 P fn a'.tmps (fun e w' => ∃ u lv', e = .returned u ∧ Rel (ybi (ydp w lv) ok0 lv' w') w' lv' r u ∧ Inv (ydp w lv) ok0 hs' lv' w' ∧ ∀ id o, hs' id = some o → isC o = true → ∃ b n n', lv id = some (some b, n) ∧ lv' id = some (some b, n')) a'.defers u w' := by
    obtain ⟨ms, m1, m2, m3⟩ := p4.defers
    rw [m1]
    refine leaves_marksD hu (B := bD (bM w lv) lv0 w0 (d :: a0.defers) (fun x => vs.getD (x - 1000000) undef)) (tm := a'.tmps) (fun a1 w1 ht hs1 => ?_) ms a' w' rfl m1 m2 m3 p4
    refine ⟨hu, .inr ⟨fun h => (by cases h), fv, cap, g, vs.toArray, p2, (by rw [p2]; exact p3 w1), fun _ _ => trivial, ?_⟩⟩
    have hvs : ybr (ybi (bD (bM w lv) lv0 w0 (d :: a0.defers) (fun x => vs.getD (x - 1000000) undef)) (ybi (bM w lv) ok0 lv0 w0) lv' w1) w1 lv' (args0.map (yey σ)) vs := by
      refine ⟨by rw [List.length_map, q3], fun i y z hy hz => ?_⟩
      rw [List.getElem?_map] at hy
      cases hx : args0[i]? with
      | none => rw [hx] at hy; cases hy
      | some x0 =>
        rw [hx] at hy
        simp only [Option.map_some, Option.some.injEq] at hy
        subst hy
        have := (hs1.frame _ _ (q4 i x0 hx)).2
        have e : yev (bD (bM w lv) lv0 w0 (d :: a0.defers) (fun x => vs.getD (x - 1000000) undef)) a1 (1000000 + i) = z := by
          simp only [yev]
          rw [if_neg (by omega)]
          simp only [bD, Nat.add_sub_cancel_left, List.getD_eq_getElem?_getD, hz, Option.getD_some]
        rw [e] at this
        exact this
    have hcall := lendK (K := KD P g u u') (fun us w R R' h hk => KD.mono h hk) hs1 hvs q5 c1 c2 c3 c4 c5 c6 c7 c8
    refine CallsDIn.mono hcall fun e u2 w2 ⟨hu2, v2, lv2, he, hs2⟩ => ?_
    subst he hu2
    simp only
    rw [q2]
    have hds : yju (bM w lv) w2 a0.defers := p1.defers.same fun D hD => by
      have hlt := (Array.getElem?_eq_some_iff.1 hD).1
      exact (hs2.inv.base.block D hlt (fun ⟨id, n, hn⟩ => (p1.inv.lvat hn).choose_spec.2.2.2.notDef hD)).trans hD
    have hs3 := Sim.unbase p1 rfl hs2 hds q6
    rw [← ht]
    exact ycz (B := bM w lv) rfl rfl (fun a2 w3 hs4 => finM hT hrs hcl hi hs4 q7 q8 q9) _ { a1 with defers := a0.defers } w2 rfl hs3
  cases e <;> simp only [modeOf, Option.some.injEq] at q1 <;> first | (subst q1; exact main) | cases q1
end
section
variable {P : Program} {ty : TypeId} {h : Nat → Option LObj} {ρ : Operand → Option AV}
theorem yield_iface {x : Operand} {tt : TypeId} {fs : Array Field} {y : AV} {u : Value} (hu : P.underlying tt = some (.struct fs)) (hx : ρ x = some y) (hv : toV y = some u) : yct P h ρ (.makeInterface tt x) ty (.v (.iface tt u)) := by
  refine ydh (fun _ _ => by simp) (by simp [yfu, Op.operands, hx, hv]) fun w => ?_
  simp [execOp, Instr.makeInterface, yjr, hx, hv, run_underlying hu]
theorem toVs_get : ∀ {cs : List AV} {vs : List Value}, toV.toVs cs = some vs → vs.length = cs.length ∧ ∀ (i : Nat) (c : AV) (u : Value), cs[i]? = some c → vs[i]? = some u → c = .v u
  | [], vs, h => by simp only [toV.toVs, Option.some.injEq] at h; subst h; exact ⟨rfl, fun i c u h => by simp at h⟩
  | c :: cs, vs, h => by
    cases c with
    | v x =>
      simp only [toV.toVs] at h
      split at h
      · rename_i ws hw
        simp only [Option.some.injEq] at h
        subst h
        obtain ⟨h1, h2⟩ := toVs_get hw
        refine ⟨by simp [h1], fun i c u hc hu => ?_⟩
        cases i with
        | zero => simp only [List.getElem?_cons_zero, Option.some.injEq] at hc hu; rw [← hc, ← hu]
        | succ i => exact h2 i c u (by simpa using hc) (by simpa using hu)
      · cases h
    | _ => simp [toV.toVs] at h
def aggOk : AV → Bool
  | .agg cs => cs.all ydl
  | _ => true
theorem rel_toV {ok : Nat → Prop} {w : World} {lv : Live} {y : AV} {u : Value} (h : toV y = some u) (ho : aggOk y = true) : Rel ok w lv y u := by
  cases y with
  | v x => simp only [toV, Option.some.injEq] at h; subst h; exact .v x
  | agg cs =>
    simp only [toV] at h
    split at h
    · rename_i vs hv
      simp only [Option.some.injEq] at h
      subst h
      obtain ⟨h1, h2⟩ := toVs_get hv
      exact .agg vs h1 (fun c hc => by simp only [aggOk, List.all_eq_true] at ho; exact ho c hc) fun i c u hc hu => by rw [h2 i c u hc hu]; exact .v u
    · cases h
  | _ => simp [toV] at h
theorem yield_assertYes {x : Operand} {xt tt : TypeId} {y : AV} {u : Value} {fs : Array Field} (hu : P.underlying tt = some (.struct fs)) (hx : ρ x = some (.v (.iface tt u))) (hy : toV y = some u) (hyo : aggOk y = true) : yct P h ρ (.typeAssert x xt tt true) ty (.tup [y, .v (.bool true)]) :=
  yat fun B ok0 lv w a o ho hty hi hops => by
    have hv := yfv (hops x _ (by simp [Op.operands]) hx)
    refine ⟨.tuple #[u, .bool true], by simp [execOp, ho, Instr.typeAssert, hv, run_underlying hu], ?_⟩
    refine .tup [u, .bool true] rfl fun i c u' hc hu' => ?_
    match i with
    | 0 => simp only [List.getElem?_cons_zero, Option.some.injEq] at hc hu'; subst hc hu'; exact rel_toV hy hyo
    | 1 => simp only [List.getElem?_cons_succ, List.getElem?_cons_zero, Option.some.injEq] at hc hu'; subst hc hu'; exact .v _
    | i + 2 => simp at hc
theorem yield_eqNilNo {x y : Operand} {ti tt : TypeId} {ty' : TypeId} {u : Value} (hu : P.underlying ti = some (.interface (P.methodsAt ti))) (hx : ρ x = some (.v (.iface tt u))) (hy : ρ y = some (.v .nilIface)) : yct P h ρ (.binOp .eql ti x y ty') ty (.v (.bool false)) := by
  refine ydh (fun _ _ => by simp) (by simp [yfu, Op.operands, hx, hy, toV]) fun w => ?_
  simp [execOp, yfy hx, yfy hy, eqGuard, binOp, run_equal_held_nil w ti tt u hu]
theorem yield_eqNilYes {x : Operand} {c : Value} {ti : TypeId} {ty' : TypeId} (hu : P.underlying ti = some (.interface (P.methodsAt ti))) (hx : ρ x = some (.v .nilIface)) (hy : ρ (.const c) = some (.v .nilIface)) : yct P h ρ (.binOp .eql ti x (.const c) ty') ty (.v (.bool true)) := by
  refine ydh (fun _ _ => by simp) (by simp [yfu, Op.operands, hx, hy, toV]) fun w => ?_
  simp [execOp, yfy hx, yfy hy, eqGuard, binOp, run_equal_nil_nil w ti hu]
end
theorem callsDIn_of_wpSIn_marks {P : Program} {F : Fence} {n : Nat} {f : FuncId} {fn : Func} {c : Code} {args : Array Value} {u u' : FrameMode} {w : World} {R : Ending → World → Prop} (hf : P.funcs[f]? = some fn) (hb : fn.body = some c) (hF : F.fn f)
    (h : ∀ (c₀ : Frame) (cs : List Frame), c₀.mode = u → c.wpSIn F n P (fun e a cs' w' => (e = .normal ∨ e = .ret) ∧ cs' = { c₀ with mode := u' } :: cs ∧ MarksIn P (fun w2 => ∃ v, (results fn a.tmps).run P w2 = .ok v w2 ∧ R (.returned v) w2) a.defers w') { tmps := args ++ Array.replicate (fn.ntmps - args.size) undef, defers := [] } (c₀ :: cs) w) :
    CallsDIn F n P f args u w fun e u2 w' => u2 = u' ∧ R e w' := by
  refine ⟨hF, fun c₀ cs hu hroom => ?_⟩
  let b : Frame := { (default : Frame) with fn := f, kind := .deferred, roundOf := none }
  have henter : Frame.enter P f args .deferred =
      b.atR { tmps := args ++ Array.replicate (fn.ntmps - args.size) undef, defers := [] } [.code c] := by
    simp [Frame.enter, Frame.atR, hf, hb, b]
  obtain ⟨e, a', cs', w', hl, ⟨he, hcs, hq⟩, harr⟩ := h c₀ cs hu b [] rfl rfl hF hroom
  rw [← henter] at harr
  subst hcs
  have hroom' : F.room (({ c₀ with mode := u' } :: cs).length + 1 + n) := hroom
  rcases he with rfl | rfl
  · obtain ⟨w2, ⟨v, g1, g2⟩, g3⟩ := marks_steps (F := F) (n := n) a'.defers w' { b.atR a' [] with mode := .returning } ({ c₀ with mode := u' } :: cs) rfl rfl hF hroom' hq
    exact ⟨.returned v, u', w2, _, ⟨rfl, g2⟩, StepsIn.trans (StepsIn.trans harr (.one (fenced_calm (fr := b.atR a' []) hF hroom' rfl) (stepR_end rfl))) g3, rfl, rfl, rfl, rfl, fn, hf, g1⟩
  · obtain ⟨todo, hs⟩ := harr.1 rfl
    obtain ⟨w2, ⟨v, g1, g2⟩, g3⟩ := marks_steps (F := F) (n := n) a'.defers w' { b.atR a' todo with mode := .returning } ({ c₀ with mode := u' } :: cs) rfl rfl hF hroom' hq
    exact ⟨.returned v, u', w2, _, ⟨rfl, g2⟩, StepsIn.trans hs g3, rfl, rfl, rfl, rfl, fn, hf, g1⟩
inductive Rec : FrameMode → Value → FrameMode → Prop
  | idle : Rec .returning .nilIface .returning
  | caught (v : Value) (older : List PanicEntry) : Rec (.panicking ({ v := v, recovered := false } :: older)) v (.panicking ({ v := v, recovered := true } :: older))
theorem wpSIn_recover {F : Fence} {n : Nat} {P : Program} {Q : Exit → Act → List Frame → World → Prop} {id : Nat} {o : Oper} {l1 : List Oper} {ats : Array TypeId} {a : Act} {c₀ : Frame} {cs : List Frame} {w : World} {u u' : FrameMode} {v : Value} (hro : F.round = none) (hop : o.op = .call { callee := .builtin .recover, args := #[], argTypes := ats }) (hgd : o.guard = none) (hu : c₀.mode = u) (hrec : Rec u v u')
    (h : wpOpsIn F n P (o :: l1).toArray (fun e a' w' => Q e a' ({ c₀ with mode := u' } :: cs) w') (List.range' 1 l1.length) (a.put o.dst v) w) : (Code.region id (o :: l1).toArray false).wpSIn F n P Q a (c₀ :: cs) w := by
  intro b k hb hr hF hroom
  have hsp : List.range (o :: l1).toArray.size = 0 :: List.range' 1 l1.length := by
    rw [List.size_toArray, List.range_eq_range', List.length_cons, List.range'_succ]
  have hg0 : (o :: l1).toArray[0]? = some o := by simp
  have hw : Region.wanted o (yielded (o :: l1).toArray a.tmps) = true := by simp [Region.wanted, hgd]
  have hrun : (execOp a.eval o).run P w = .ok .recover w := by
    unfold execOp
    simp only [hop, resolve, Sem.run_bind, Sem.run_pure, Result.andThen_ok, invoke, builtin]
  have habout : ∀ f, o.about P w a.eval = some f → F.fn f := by
    intro f hf
    simp [Oper.about, hop, resolve, Target.leads] at hf
  have h0 : (lone (b.atR a (.inRegion (o :: l1).toArray (0 :: List.range' 1 l1.length) :: k)) (c₀ :: cs) w).fenced P F := fenced_oper hF hroom hg0 habout
  have hg := stepGR_op (P := P) (b := b) (k := k) (cs := c₀ :: cs) (w := w) (rest := List.range' 1 l1.length) hg0 hw
  rw [hr, Oper.semAt_none] at hg
  have hfin : ∀ v, (b.atR a (.inRegion (o :: l1).toArray (0 :: List.range' 1 l1.length) :: k)).finish v = b.atR (a.put o.dst v) (.inRegion (o :: l1).toArray (List.range' 1 l1.length) :: k) := by
    intro v; rw [Frame.finish_atR, hg0]; rfl
  have hk : (b.atR a (.inRegion (o :: l1).toArray (0 :: List.range' 1 l1.length) :: k)).kind = .deferred := hb
  have htr := tryRecover_deferred hk (c₀ :: cs)
  have hroom' : F.room (({ c₀ with mode := u' } :: cs).length + 1 + n) := hroom
  obtain ⟨e, a', w', hq, harr⟩ := wp_opsIn _ _ w h b k ({ c₀ with mode := u' } :: cs) (hr.trans hro.symm) hF hroom'
  refine ⟨e, a', { c₀ with mode := u' } :: cs, w', rfl, hq, .of_steps (.head (fenced_calm hF hroom rfl) stepR_region ?_) harr⟩
  rw [hsp]
  refine .one h0 (step_lone_go ?_)
  rw [hg, ← hfin]
  cases hrec with
  | idle =>
    have hrc : recoverD (c₀ :: cs) = none := by simp [recoverD, hu]
    have hc : ({ c₀ with mode := .returning } : Frame) = c₀ := by rw [← hu]
    rw [hc]
    simp only [Frame.atR, hr] at htr ⊢
    simp [stepG.apply, hrun, htr, hrc]
  | caught v older =>
    have hrc : recoverD (c₀ :: cs) = some (v, { c₀ with mode := .panicking ({ v := v, recovered := true } :: older) } :: cs) := by simp [recoverD, hu]
    simp only [Frame.atR, hr] at htr ⊢
    simp [stepG.apply, hrun, htr, hrc]
theorem conKD_recover {P : Program} {T : Nat → Option Ty} (hT : TOK P T) {f : FuncId} {fn : Func} {id d : Nat} {o : Oper} {l1 : List Oper} {y : Code} {lf : Oper → Bool} {ats : Array TypeId} {N : Nat} {rs : List ResultVar} {args : List AV} {hs hs' : Nat → Option LObj} {r : AV} {u u' : FrameMode} {v : Value} (hf : P.funcs[f]? = some fn) (hb : fn.body = some (.seq (.region id (o :: l1).toArray false) y)) (hN : fn.ntmps = N) (hrs : fn.results = rs.toArray) (hlen : (Nat.ble args.length N && Nat.ble N 1000000) = true)
    (hcl : ∀ id o, hs' id = some o → isC o = true → N ≤ id ∧ ∃ o', hs id = some o' ∧ isC o' = true) (hop : o.op = .call { callee := .builtin .recover, args := #[], argTypes := ats }) (hgd : o.guard = none) (hdst : o.dst = some d) (hd : d < N) (hnd : yex l1 = true) (hrec : Rec u v u')
    (h : Lex P N (o :: l1).toArray lf (A P N y (EndsM T rs r hs')) l1 ⟨ybb ((d, .v v) :: yfd 0 args), hs⟩) : ylj (KD P f u u') args hs r hs' := by
  refine ⟨fun id o hx hc => (hcl id o hx hc).2, fun ok0 lv w us hi hus => callsDIn_of_wpSIn_marks hf hb trivial fun c₀ cs hu => ?_⟩
  have hsim := entryM hN hlen hi hus (n := fn.ntmps)
  refine wpSIn_seq (wpSIn_recover rfl hop hgd hu hrec ?_)
  have hput : Sim (bM w lv) ok0 N ⟨ybb ((d, .v v) :: yfd 0 args), hs⟩ lv (({ tmps := us.toArray ++ Array.replicate (fn.ntmps - us.toArray.size) undef, defers := [] } : Act).put o.dst v) w := by
    have := hsim.put (d := o.dst) (r := .v v) (u := v) (fun x hx => by rw [hdst] at hx; cases hx; exact hd) hsim.inv (Below.refl _ _) (.v _)
    rw [hdst] at this ⊢
    rw [← yfi]
    exact this
  have := lex_opsK2 (B := bM w lv) (ok0 := ok0) (n := 0) (rest := []) (Q' := fun e a' w' => Exit.thenS (y.wpSIn Fence.wide 0 P (fun e a cs' w' => (e = .normal ∨ e = .ret) ∧ cs' = { c₀ with mode := u' } :: cs ∧ MarksIn P (fun w2 => ∃ v, (results fn a.tmps).run P w2 = .ok v w2 ∧ ∃ u lv', Ending.returned v = .returned u ∧ Rel (ybi (ydp w lv) ok0 lv' w2) w2 lv' r u ∧ Inv (ydp w lv) ok0 hs' lv' w2 ∧ ∀ id o, hs' id = some o → isC o = true → ∃ b n n', lv id = some (some b, n) ∧ lv' id = some (some b, n')) a.defers w'))
    (fun e a cs' w' => (e = .normal ∨ e = .ret) ∧ cs' = { c₀ with mode := u' } :: cs ∧ MarksIn P (fun w2 => ∃ v, (results fn a.tmps).run P w2 = .ok v w2 ∧ ∃ u lv', Ending.returned v = .returned u ∧ Rel (ybi (ydp w lv) ok0 lv' w2) w2 lv' r u ∧ Inv (ydp w lv) ok0 hs' lv' w2 ∧ ∀ id o, hs' id = some o → isC o = true → ∃ b n n', lv id = some (some b, n) ∧ lv' id = some (some b, n')) a.defers w') e a' ({ c₀ with mode := u' } :: cs) w') (fun s1 lv1 a1 w1 hq hs1 => ?_) h hnd 1 (fun j o' ho' => by rw [Nat.add_comm]; simpa using ho') lv _ w hput
  · rw [List.append_nil] at this
    exact this
  · show y.wpSIn _ _ _ _ _ _ _
    refine wpSIn_of_wpIn rfl ?_
    refine wpIn_mono (hq (bM w lv) ok0 lv1 a1 w1 hs1) fun e a' w' ⟨s', lv', hq2, hs2⟩ => ?_
    cases e with
    | normal => obtain ⟨x, hx, h1, h2⟩ := hq2; exact ⟨.inl rfl, rfl, marks_in (B := bM w lv) (tm := a'.tmps) rfl (fun a2 w2 ht hs3 => by have := finM hT hrs hcl hi hs3 hx h1 h2 (fn := fn); rwa [ht] at this) _ a' w' rfl rfl hs2⟩
    | ret => obtain ⟨x, hx, h1, h2⟩ := hq2; exact ⟨.inr rfl, rfl, marks_in (B := bM w lv) (tm := a'.tmps) rfl (fun a2 w2 ht hs3 => by have := finM hT hrs hcl hi hs3 hx h1 h2 (fn := fn); rwa [ht] at this) _ a' w' rfl rfl hs2⟩
    | _ => exact hq2.elim
section
variable {P : Program} {N : Nat}
theorem callP_die2 {o : Oper} {g : Operand} {args : List Operand} {ats : Array TypeId} {f : FuncId} {caps xs args0 : List AV} {hm : Nat → Option LObj} {ch : List PanicEntry} {σ : Nat → Nat} {ids : List Nat} {s : SS} {h2 : Nat → Option LObj} {t2 : Nat → Option AV} (ht2 : ∀ x y, t2 x = some y → s.t x = some y)
    (ho : o.op = .call { callee := .value g, args := args.toArray, argTypes := ats }) (hg : evF s.t g = some (.fn f caps)) (hx : evL (evF s.t) args = some xs) (hargs : xs ++ caps = args0.map (yey σ)) (hc : ykn P f args0 hm ch)
    (hinj : ∀ i ∈ ids, ∀ j ∈ ids, σ i = σ j → i = j) (hdom : ∀ id, (hm id).isSome → id ∈ ids) (hmem : ∀ id o, hm id = some o → s.h (σ id) = some (yjs σ o))
    (hh2 : ∀ j ob', h2 j = some ob' → (∀ i ∈ ids, σ i ≠ j ∧ yfe (σ i) ob' = false) ∧ s.h j = some ob') : yjk P N o s (fun c s' => c = ch ∧ s' = ⟨t2, h2⟩) := by
  intro B ok0 lv a w hs K Q hQ
  have hfr := hs.eval hg
  have har := evL_rel (a := a) args xs (fun x y _ hxy => hs.eval hxy) hx
  generalize hv : a.eval g = v at hfr
  cases hfr with
  | fn vs hl hrc =>
  have hrun : (execOp a.eval o).run P w = .ok (.enter f (args.map a.eval ++ vs).toArray) w := by
    unfold execOp
    simp only [ho, resolve, Deferred.ofValue, hv, Sem.run_bind, Sem.run_pure, Result.andThen_ok, invoke]
    rw [run_callFunc hc.1]
    simp
  let lv1 : Live := fun id => if id ∈ ids ∧ (hm id).isSome then lv (σ id) else none
  have hl1 : ∀ id b n, lv1 id = some (b, n) → id ∈ ids ∧ (hm id).isSome ∧ lv (σ id) = some (b, n) := by
    intro id b n hb
    simp only [lv1] at hb
    split at hb
    · rename_i h; exact ⟨h.1, h.2, hb⟩
    · cases hb
  have hl2 : ∀ id b n, lv1 id = some (b, n) → lv (σ id) = some (b, n) := fun id b n h => (hl1 id b n h).2.2
  have hmine : ∀ b, yhl lv1 b → B.mine b ∧ b < w.heap.size ∧ ∃ i ∈ ids, ∃ n, lv (σ i) = some (some b, n) := by
    rintro b ⟨id, n, hb⟩
    obtain ⟨h1, h2, h3⟩ := hl1 id _ n hb
    obtain ⟨_, _, h4, h5, _⟩ := hs.inv.lvat h3
    exact ⟨h4, h5, id, h1, n, h3⟩
  have hok1 : ∀ g, ybi B ok0 lv w g → ybi (ydp w lv1) (ybi B ok0 lv w) lv1 w g := fun g hg => ⟨.inl hg, hg.2.1, fun id b n hb => hg.2.2 (σ id) b n (hl2 id _ n hb)⟩
  have hinv : Inv (ydp w lv1) (ybi B ok0 lv w) hm lv1 w := by
    refine ⟨⟨rfl, rfl, rfl, Nat.le_refl _, fun _ _ _ => rfl, hs.inv.base.glob, hs.inv.base.glob.size, fun k hk => hs.inv.base.mineG (hmine k hk).1, fun l h => by cases h⟩, fun g hg => hg.2.1, fun id hid => by simp [lv1, hid], fun i j b n m h1 h2 => ?_, fun id x hx => ?_⟩
    · obtain ⟨q1, _, q2⟩ := hl1 _ _ _ h1
      obtain ⟨r1, _, r2⟩ := hl1 _ _ _ h2
      exact hinj i q1 j r1 (hs.inv.inj _ _ b n m q2 r2)
    · obtain ⟨b, n, h1, h2⟩ := hs.inv.obj (σ id) _ (hmem id x hx)
      have hlv : lv1 id = some (b, n) := by simp [lv1, hdom id (by simp [hx]), hx, h1]
      refine ⟨b, n, hlv, ?_⟩
      cases b with
      | none => exact renO_nil h2
      | some b => exact ⟨.inl ⟨id, n, hlv⟩, h2.2.1, yeo.unren hl2 hok1 h2.2.2⟩
  have hall : ybr (ybi (ydp w lv1) (ybi B ok0 lv w) lv1 w) w lv1 args0 (args.map a.eval ++ vs) := by
    have hlen : (args.map a.eval ++ vs).length = args0.length := by
      have := congrArg List.length hargs
      simp only [List.length_append, List.length_map] at this ⊢
      have := har.1
      simp at this
      omega
    refine ⟨hlen, fun i x u hx hu => ?_⟩
    have hxi : (xs ++ caps)[i]? = some (yey σ x) := by rw [hargs]; simp [hx]
    have hrel : Rel (ybi B ok0 lv w) w lv (yey σ x) u := by
      by_cases hlt : i < xs.length
      · rw [List.getElem?_append_left hlt] at hxi
        rw [List.getElem?_append_left (by rw [har.1]; exact hlt)] at hu
        exact har.2 i _ u hxi hu
      · rw [List.getElem?_append_right (by omega)] at hxi
        rw [List.getElem?_append_right (by rw [har.1]; omega), har.1] at hu
        exact hrc _ _ u hxi hu
    exact (Rel.unren hl2 hrel).keep fun g hg => ⟨hok1 g hg, rfl⟩
  unfold Oper.wp
  rw [hrun]
  refine (hc.2 (ybi B ok0 lv w) lv1 w (args.map a.eval ++ vs) hinv hall).mono fun e w' ⟨he, lv3, hi3⟩ => ?_
  subst he
  have hb3 := hi3.base
  have hstay : ∀ k, k < w.heap.size → (∀ i ∈ ids, ∀ n, lv (σ i) ≠ some (some k, n)) → w'.heap[k]? = w.heap[k]? := by
    intro k hk hn
    exact hb3.block k hk fun hlent => by
      obtain ⟨_, _, i, hi, n, hn'⟩ := hmine k hlent
      exact hn i hi n hn'
  have hsz : w.heap.size ≤ w'.heap.size := hb3.size
  let lv2 : Live := fun j => if (h2 j).isSome then lv j else none
  have hlv2 : ∀ j b n, lv2 j = some (b, n) → lv j = some (b, n) ∧ ∃ ob, h2 j = some ob := by
    intro j b n hb
    simp only [lv2] at hb
    split at hb
    · rename_i h; exact ⟨hb, Option.isSome_iff_exists.1 h⟩
    · cases hb
  have hnl : ∀ j b n, lv2 j = some (some b, n) → ∀ i ∈ ids, ∀ n', lv (σ i) ≠ some (some b, n') := by
    intro j b n hb i hi n' hn'
    obtain ⟨h1, ob, h3⟩ := hlv2 j _ n hb
    exact ((hh2 j ob h3).1 i hi).1 (hs.inv.inj _ _ b n' n hn' h1)
  have hok2 : ∀ g, ybi B ok0 lv w g → ybi B ok0 lv2 w' g ∧ w'.heap[g]? = w.heap[g]? := by
    intro g hg
    exact ⟨⟨hg.1, Nat.lt_of_lt_of_le hg.2.1 hsz, fun j b n hb => hg.2.2 j b n (hlv2 j _ n hb).1⟩, hstay g hg.2.1 fun i _ n hn => hg.2.2 _ _ n hn rfl⟩
  refine hQ ch a w' ⟨⟨t2, h2⟩, lv2, ⟨rfl, rfl⟩, ⟨⟨?_, hs.inv.ok0lt, fun j hj => ?_, fun i j b n m h1 h2' => ?_, fun j x hx => ?_⟩, hs.size, (fun x y hy => ⟨(hs.frame x y (ht2 x y hy)).1, ((hs.frame x y (ht2 x y hy)).2.relive fun j b n hb _ => (hlv2 j b n hb).1).keep hok2⟩), hs.defers.same (fun g hg => (hstay g (Array.getElem?_eq_some_iff.1 hg).1 fun i hi n hn => (hs.inv.lvat hn).choose_spec.2.2.2.notDef hg).trans hg), hs.big, fun j b o' hN hj hcj hb => ?_⟩⟩
  · refine ⟨hb3.os.trans hs.inv.base.os, hb3.tape.trans hs.inv.base.tape, hb3.output.trans hs.inv.base.output, Nat.le_trans hs.inv.base.size hsz, fun k hk hnl => ?_, hb3.glob, hs.inv.base.gsize, hs.inv.base.lentG, hs.inv.base.rdok⟩
    refine (hstay k (Nat.lt_of_lt_of_le hk hs.inv.base.size) fun i hi n hn => ?_).trans (hs.inv.base.block k hk hnl)
    obtain ⟨_, _, q1, _, _⟩ := hs.inv.lvat hn
    rcases q1 with q1 | q1
    · exact hnl q1
    · omega
  · show lv2 j = none
    simp only [lv2]
    rw [if_neg (by rw [show h2 j = none from hj]; simp)]
  · exact hs.inv.inj i j b n m (hlv2 i _ n h1).1 (hlv2 j _ m h2').1
  · obtain ⟨hne, hsj⟩ := hh2 j x hx
    obtain ⟨b, n, h1, h3⟩ := hs.inv.obj j x hsj
    have hl : lv2 j = some (b, n) := by
      show (if (h2 j).isSome = true then lv j else none) = _
      rw [if_pos (by rw [show h2 j = some x from hx]; rfl)]; exact h1
    refine ⟨b, n, hl, ?_⟩
    cases b with
    | none => exact h3
    | some b =>
      refine ⟨h3.1, Nat.lt_of_lt_of_le h3.2.1 hsz, ?_⟩
      exact (h3.2.2.relive fun i b' n' hb' _ => (hlv2 i b' n' hb').1).keep hok2 (hstay b h3.2.1 (hnl j b n hl))
  · obtain ⟨hne, hsj⟩ := hh2 j o' hj
    obtain ⟨n, hn⟩ := hs.pin j b o' hN hsj hcj hb
    exact ⟨n, by show (if (h2 j).isSome = true then lv j else none) = _; rw [if_pos (by rw [show h2 j = some o' from hj]; rfl)]; exact hn⟩
end
theorem pureA_onlyX {ids : List Nat} : ∀ {x : AV}, ybp x = true → ygc ids x = true
  | .v _, _ => rfl
  | .any, _ => rfl
  | .one, _ => rfl
  | .sl _ _, _ => rfl
  | .dp _ _, _ => rfl
  | .mv _, _ => rfl
  | .agg cs, h => rows (cs := cs) h
  | .tup cs, h => rows (cs := cs) h
  | .fn _ cs, h => rows (cs := cs) h
  where rows : ∀ {cs : List AV}, ybp.pureL cs = true → ygc.onlyL ids cs = true
  | [], _ => rfl
  | c :: cs, h => by
    simp only [ybp.pureL, Bool.and_eq_true] at h
    simp only [ygc.onlyL, pureA_onlyX h.1, rows h.2, Bool.and_self]
theorem renA_idf : ∀ (x : AV), yey (fun i => i) x = x
  | .v _ => rfl
  | .any => rfl
  | .one => rfl
  | .sl _ _ => rfl
  | .dp _ _ => rfl
  | .mv _ => rfl
  | .lp _ _ => rfl
  | .ls _ _ _ => rfl
  | .mp _ => rfl
  | .agg cs => by simp only [yey, rows cs]
  | .tup cs => by simp only [yey, rows cs]
  | .fn _ cs => by simp only [yey, rows cs]
  where rows : ∀ (cs : List AV), yey.renL (fun i => i) cs = cs
  | [] => rfl
  | c :: cs => by simp only [yey.renL, renA_idf c, rows cs]
theorem renO_idf (o : LObj) : yjs (fun i => i) o = o := by cases o <;> simp only [yjs, renA_idf.rows]
def yew (hs : List (Nat × Option LObj)) : List Nat := hs.map (·.1)
theorem ydv {hs : List (Nat × Option LObj)} : ∀ {id : Nat}, (yao hs id).isSome → id ∈ yew hs := by
  induction hs with
  | nil => intro id h; cases h
  | cons x hs ih =>
    intro id h
    obtain ⟨k, o⟩ := x
    simp only [yao] at h
    cases hb : Nat.beq id k with
    | true => simp [yew, Nat.eq_of_beq_eq_true hb]
    | false => rw [hb] at h; simp only at h; exact List.mem_cons_of_mem _ (ih h)
theorem hlook_out {hs : List (Nat × Option LObj)} {id : Nat} (h : id ∉ yew hs) : yao hs id = none := by
  cases hq : yao hs id with
  | none => rfl
  | some o => exact absurd (ydv (by rw [hq]; rfl)) h
theorem hlook_apd {f g : List (Nat × Option LObj)} {id : Nat} (h : id ∉ yew f) : yao (f ++ g) id = yao g id := by
  induction f with
  | nil => rfl
  | cons x f ih =>
    obtain ⟨k, o⟩ := x
    simp only [yew, List.map_cons, List.mem_cons, not_or] at h
    simp only [List.cons_append, yao]
    cases hb : Nat.beq id k with
    | true => exact absurd (Nat.eq_of_beq_eq_true hb) h.1
    | false => exact ih h.2
theorem hlook_apl {f g : List (Nat × Option LObj)} {id : Nat} (h : id ∉ yew g) : yao (f ++ g) id = yao f id := by
  induction f with
  | nil => exact hlook_out h
  | cons x f ih =>
    obtain ⟨k, o⟩ := x
    simp only [List.cons_append, yao]
    cases hb : Nat.beq id k with
    | true => rfl
    | false => exact ih
section
variable {P : Program} {N : Nat} {ops : Array Oper} {lf : Oper → Bool} {Q : SS → Prop} {t t' : List (Nat × AV)} {pre hs hs' : List (Nat × Option LObj)} {rest : List Oper} {d : Nat} {ty : TypeId} {pos : String} {af : Array Edge} {gd : Option (Nat × Bool)}
structure Ahead (pre hs : List (Nat × Option LObj)) : Prop where
  keys : ∀ i ∈ yew hs, i ∉ yew pre
  ment : ∀ j ob, yao pre j = some ob → ∀ i ∈ yew hs, yfe i ob = false
theorem L_callI {g : Operand} {args : List Operand} {ats : Array TypeId} {f : FuncId} {caps xs : List AV} {r : AV} (hc : yia P f (xs ++ caps) (yao hs) r (yao hs')) (hpr : ybp r = true) (hg : evF (ybb t) g = some (.fn f caps)) (hx : evL (evF (ybb t)) args = some xs) (ha : Ahead pre (hs ++ hs')) (hro : ∀ id o, yao hs' id = some o → yjw (yew (hs ++ hs')) o = true)
    (ht : ∀ x y, ybb t' x = some y → ybb t x = some y ∧ ∀ i ∈ yew (hs ++ hs'), ment i y = false) (hl : lf ⟨some d, .call { callee := .value g, args := args.toArray, argTypes := ats }, ty, pos, af, gd⟩ = true) (hw : yaz ops (ybb t) ⟨some d, .call { callee := .value g, args := args.toArray, argTypes := ats }, ty, pos, af, gd⟩ = some true) (hd : Nat.blt d N = true)
    (k : Lex P N ops lf Q rest (S ((d, r) :: t') (pre ++ hs'))) : Lex P N ops lf Q (⟨some d, .call { callee := .value g, args := args.toArray, argTypes := ats }, ty, pos, af, gd⟩ :: rest) (S t (pre ++ hs)) := by
  refine yhi hl hw ?_ k
  have hk1 : ∀ i, i ∈ yew hs → i ∈ yew (hs ++ hs') := fun i hi => by simp only [yew, List.map_append, List.mem_append] at hi ⊢; exact .inl hi
  have hk2 : ∀ i, i ∈ yew hs' → i ∈ yew (hs ++ hs') := fun i hi => by simp only [yew, List.map_append, List.mem_append] at hi ⊢; exact .inr hi
  refine callM_loud (σ := fun i => i) (ids := yew (hs ++ hs')) rfl rfl (by simpa using hd) hg hx (by rw [show (yey fun i => i) = id from funext renA_idf]; simp) hc (fun _ _ _ _ h => h) (fun id h => hk1 id (ydv h)) (fun id h => hk2 id (ydv h)) (fun id o ho => ?_) (pureA_onlyX hpr) hro (fun x y hy => ?_) (fun i hi => ?_) (fun j ob' hj hob => ?_)
  · show yao (pre ++ hs) id = _
    rw [hlook_apd (ha.keys id (hk1 id (ydv (by rw [ho]; rfl)))), ho, renO_idf]
  · simp only [S, ybb] at hy
    cases hb : Nat.beq x d with
    | true => rw [hb] at hy; simp only [Option.some.injEq] at hy; exact .inl ⟨Nat.eq_of_beq_eq_true hb, by rw [renA_idf]; exact hy.symm⟩
    | false =>
      rw [hb] at hy
      simp only at hy
      obtain ⟨h1, h2⟩ := ht x y hy
      exact .inr ⟨fun e => (by subst e; rw [Nat.beq_refl] at hb; cases hb), .inr ⟨h1, .inl h2⟩⟩
  · show yao (pre ++ hs') i = _
    rw [hlook_apd (ha.keys i hi)]
    cases yao hs' i <;> simp [renO_idf]
  · have hob : yao (pre ++ hs') j = some ob' := hob
    rw [hlook_apl fun hm => hj j (hk2 j hm) rfl] at hob
    refine ⟨fun i hi => ha.ment j ob' hob i hi, ob', ?_, .inl rfl⟩
    show yao (pre ++ hs) j = _
    rw [hlook_apl fun hm => hj j (hk1 j hm) rfl]
    exact hob
theorem D_callI {dst : Option Tmp} {g : Operand} {args : List Operand} {ats : Array TypeId} {f : FuncId} {caps xs : List AV} {ch : List PanicEntry} {D : List PanicEntry → SS → Prop} (hc : ykn P f (xs ++ caps) (yao hs) ch) (hg : evF (ybb t) g = some (.fn f caps)) (hx : evL (evF (ybb t)) args = some xs) (ha : Ahead pre hs) (ht : ylm t t') (hD : D ch (S t' pre)) :
    yjk P N ⟨dst, .call { callee := .value g, args := args.toArray, argTypes := ats }, ty, pos, af, gd⟩ (S t (pre ++ hs)) D := by
  refine (callP_die2 (σ := fun i => i) (ids := yew hs) (h2 := yao pre) (t2 := ybb t') (subT_look ht) rfl hg hx (by rw [show (yey fun i => i) = id from funext renA_idf]; simp) hc (fun _ _ _ _ h => h) (fun id h => ydv h) (fun id o ho => ?_) (fun j ob hj => ⟨fun i hi => ⟨?_, ha.ment j ob hj i hi⟩, ?_⟩)).mono ?_
  · show yao (pre ++ hs) id = _
    rw [hlook_apd (ha.keys id (ydv (by rw [ho]; rfl))), ho, renO_idf]
  · rintro rfl
    exact ha.keys _ hi (ydv (by rw [hj]; rfl))
  · show yao (pre ++ hs) j = _
    rw [hlook_apl fun hm => ha.keys j hm (ydv (by rw [hj]; rfl))]
    exact hj
  · rintro c s' ⟨rfl, rfl⟩
    exact hD
end
def subF (f : Nat → Option AV) : List (Nat × AV) → Prop
  | [] => True
  | (x, y) :: t => f x = some y ∧ subF f t
theorem subF_look {f : Nat → Option AV} : ∀ {t : List (Nat × AV)}, subF f t → ∀ x y, ybb t x = some y → f x = some y
  | [], _, x, y, h => by simp [ybb] at h
  | (a, z) :: t, hs, x, y, h => by
    simp only [ybb] at h
    cases hb : Nat.beq x a with
    | true => rw [hb] at h; simp only [Option.some.injEq] at h; subst h; rw [Nat.eq_of_beq_eq_true hb]; exact hs.1
    | false => rw [hb] at h; exact subF_look hs.2 x y h
def subA (t : List (Nat × AV)) : Nat → List AV → Prop
  | _, [] => True
  | i, x :: l => ybb t (1000000 + i) = some x ∧ subA t (i + 1) l
theorem subA_get {t : List (Nat × AV)} : ∀ {l : List AV} {k i : Nat} {x : AV}, subA t k l → l[i]? = some x → ybb t (1000000 + (k + i)) = some x
  | [], k, i, x, h, hx => by simp at hx
  | y :: l, k, 0, x, h, hx => by simp only [List.getElem?_cons_zero, Option.some.injEq] at hx; subst hx; exact h.1
  | y :: l, k, i + 1, x, h, hx => by have := subA_get h.2 (i := i) (by simpa using hx); rwa [show k + 1 + i = k + (i + 1) by omega] at this
theorem ends_defer {P : Program} {T : Nat → Option Ty} {t : List (Nat × AV)} {h : List (Nat × Option LObj)} (sg : List (Nat × Nat)) {rs : List ResultVar} {r : AV} {hs' : Nat → Option LObj} {g : FuncId} {n : Nat} {e : Exit} {u u' : FrameMode} {args0 : List AV} {hm hm' h' : List (Nat × Option LObj)} {v x : AV} (hmode : modeOf e = some u) (hset : settle u' = .returning) (hn : args0.length = n) (ha : subA t 0 (args0.map (yey (yei sg)))) (hc : ylj (KD P g u u') args0 (yao hm) v (yao hm'))
    (hk : yft (ybv sg) = true) (hv : yft (yda sg) = true) (hd1 : ykf (ybv sg) hm = true) (hd2 : ykf (ybv sg) hm' = true) (hsub : ykm h (yld sg hm)) (ho : yip (ybv sg) hm' = true) (hh : ∀ j ob', j ∉ yda sg → yao h' j = some ob' → (∀ i ∈ yda sg, yfe i ob' = false) ∧ ∃ ob, yao h j = some ob ∧ yhm ob ob')
    (hx : yjf T (S (ygq sg hm' (ylc t)) (yik sg hm' sg ++ h')) rs = some x) (hwk : Wk x r) (hend : ∀ id o, hs' id = some o → yao (yik sg hm' sg ++ h') id = some o) : EndsD P T rs r hs' (some (g, n)) e (S t h) := by
  refine ⟨u, u', args0, yao hm, v, yao hm', yei sg, ybv sg, S (ygq sg hm' (ylc t)) (yik sg hm' sg ++ h'), hmode, hset, hn, fun i x hx => ?_, hc, ⟨slook_inj hv, domIn_spec hd1, domIn_spec hd2, renH_mem hsub, onlyHs_spec ho, fun x y hy => ?_, fun i hi => backH_at hk hv i hi, fun j ob' hj hob => ?_⟩, fun x hge => ?_, x, hx, hwk, hend⟩
  · have := subA_get ha (i := i) (x := yey (yei sg) x) (by simp [hx])
    rwa [Nat.zero_add] at this
  · have hlow : ∀ z, ybb (ylc t) x = some z → ybb t x = some z := fun z hz => by
      rw [look_lowS] at hz
      cases hb : Nat.ble 1000000 x with
      | true => rw [hb] at hz; cases hz
      | false => rw [hb] at hz; exact hz
    rcases forgTM_spec hy with ⟨h1, z, h2⟩ | ⟨h1, h2⟩
    · exact .inl ⟨h1, z, hlow z h2⟩
    · exact .inr ⟨hlow y h1, keepB_spec hk h2⟩
  · have hjv : j ∉ yda sg := fun hm => by
      obtain ⟨i, h1, h2⟩ := slook_keys hm hk
      exact hj i h1 h2
    simp only [S, backH_other hjv] at hob
    obtain ⟨h1, h2⟩ := hh j ob' hjv hob
    exact ⟨fun i hi => h1 _ (slook_val hi), h2⟩
  · show ybb (ygq sg hm' (ylc t)) x = none
    cases hq : ybb (ygq sg hm' (ylc t)) x with
    | none => rfl
    | some y =>
      have : ∃ z, ybb (ylc t) x = some z := by
        rcases forgTM_spec hq with ⟨_, z, h2⟩ | ⟨h1, _⟩
        · exact ⟨z, h2⟩
        · exact ⟨y, h1⟩
      obtain ⟨z, hz⟩ := this
      rw [look_lowS, Nat.ble_eq_true_of_le hge] at hz
      cases hz
end Go.Proofs.YtcpgpiabeimefaaGreatDoor
set_option linter.unusedVariables false
set_option maxHeartbeats 4000000
namespace Go.Proofs.YtcpgpiabeimefaaGreatDoor
open Go.RowKit
section
variable {P : Program} {ty : TypeId} {h : Nat → Option LObj} {ρ : Operand → Option AV}
end
theorem renA_pureX {σ : Nat → Nat} : ∀ {x : AV}, ybp x = true → yey σ x = x
  | .v _, _ => rfl
  | .any, _ => rfl
  | .one, _ => rfl
  | .sl _ _, _ => rfl
  | .dp _ _, _ => rfl
  | .mv _, _ => rfl
  | .agg cs, h => by simp only [yey, rows (cs := cs) h]
  | .tup cs, h => by simp only [yey, rows (cs := cs) h]
  | .fn _ cs, h => by simp only [yey, rows (cs := cs) h]
  where rows : ∀ {cs : List AV}, ybp.pureL cs = true → yey.renL σ cs = cs
  | [], _ => rfl
  | c :: cs, h => by
    simp only [ybp.pureL, Bool.and_eq_true] at h
    simp only [yey.renL, renA_pureX h.1, rows h.2]
section
variable {P : Program} {N : Nat} {ops : Array Oper} {lf : Oper → Bool} {Q : SS → Prop} {t : List (Nat × AV)} {h : List (Nat × Option LObj)} {rest : List Oper} {d : Nat} {ty : TypeId} {pos : String} {af : Array Edge} {gd : Option (Nat × Bool)}
end
end Go.Proofs.YtcpgpiabeimefaaGreatDoor
