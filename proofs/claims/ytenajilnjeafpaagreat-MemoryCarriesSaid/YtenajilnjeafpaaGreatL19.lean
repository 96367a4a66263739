/- Part 19 of the texts under MemoryRanks,MemoryChanges,MemoryCarries,MemoryCorruptsNamedNodes,MemoryCarriesToItself: joined, with what it needs alone. -/
import Derived.Test.YtenajilnjeafpaaGreatL17
import Derived.Test.YtenajilnjeafpaaGreatL18
set_option linter.unusedVariables false
set_option maxHeartbeats 4000000
namespace Go.Proofs.YtenajilnjeafpaaGreat
open Go.RowKit
theorem isC_matO (xs : List AV) : isC (matO xs) = false := by cases xs <;> rfl
theorem objAt_matO {ok : Nat → Prop} {lv : Live} {w : World} {b n : Nat} {xs : List AV} : ObjAt ok lv w b n (matO xs) ↔ BlkAt ok lv w b n xs := by
  cases xs with
  | nil => exact ⟨fun h => h.1, fun h => ⟨h, fun x hx => by cases hx⟩⟩
  | cons x xs => exact Iff.rfl
theorem own_matO_none {B : Bse} {ok : Nat → Prop} {lv : Live} {w : World} {n : Nat} {xs : List AV} (h : OwnAt B ok lv w n (matO xs) none) : xs = [] := by
  cases xs with
  | nil => rfl
  | cons x xs => rcases h with h | ⟨e, h⟩ <;> cases h
theorem mentL_of_all {id : Nat} : ∀ {xs : List AV}, (∀ x ∈ xs, ment id x = false) → ment.mentL id xs = false
  | [], _ => rfl
  | x :: xs, h => by simp only [ment.mentL, h x (by simp), Bool.false_or]; exact mentL_of_all fun y hy => h y (by simp [hy])
theorem mentL_all {id : Nat} : ∀ {xs : List AV}, ment.mentL id xs = false → ∀ x ∈ xs, ment id x = false
  | [], _, x, hx => by cases hx
  | y :: xs, h, x, hx => by
    simp only [ment.mentL, Bool.or_eq_false_iff] at h
    rcases List.mem_cons.1 hx with rfl | hx
    · exact h.1
    · exact mentL_all h.2 x hx
variable {P : Program} {T : Nat → Option Ty} {N : Nat} {ops : Array Oper} {lf : Oper → Bool} {Q : SS → Prop} {t : List (Nat × AV)} {h : List (Nat × Option LObj)} {rest : List Oper} {d : Nat} {op : Op} {ty : TypeId} {pos : String} {af : Array Edge} {gd : Option (Nat × Bool)} {r : AV}
theorem blk_appL {B : Bse} {ok0 : Nat → Prop} {lv : Live} {w w' : World} {b n size len : Nat} {xs cs : List AV} {news : List Value} {c : Array Value} {e : TypeId} (g2 : c.size = n) (g3 : xs.length = len * size) (g4 : ∀ x ∈ xs, cellA x = true)
    (g5 : ∀ (j : Nat) (x : AV) (u : Value), xs[j]? = some x → c[j]? = some u → Rel (okOf B ok0 lv w) w lv x u) (hr : RelAll (okOf B ok0 lv w) w lv cs news) (hc : ∀ x ∈ cs, cellA x = true) (hfit : len * size + news.length ≤ n)
    (hw : w'.heap[b]? = some (.cells (c.toList.take (len * size) ++ news ++ c.toList.drop (len * size + news.length)).toArray e (0, 0))) (ok' : Nat → Prop) (hk : ∀ g, okOf B ok0 lv w g → ok' g ∧ w'.heap[g]? = w.heap[g]?) : BlkAt ok' lv w' b n (xs ++ cs) := by
  have hl := hr.1
  refine ⟨_, e, hw, by simp; omega, by simp [g3]; omega, fun x hx => ?_, fun j x u hx hu => ?_⟩
  · rcases List.mem_append.1 hx with hx | hx
    · exact g4 x hx
    · exact hc x hx
  · simp only [List.getElem?_toArray] at hu
    have e2 : (c.toList.take (len * size)).length = len * size := by simp; omega
    by_cases h1 : j < len * size
    · rw [List.getElem?_append_left (by omega)] at hx
      rw [List.append_assoc, List.getElem?_append_left (by omega), List.getElem?_take, if_pos h1] at hu
      exact (g5 j x u hx (by simpa using hu)).keep hk
    · rw [List.getElem?_append_right (by omega), g3] at hx
      have hlt := (List.getElem?_eq_some_iff.1 hx).1
      rw [List.append_assoc, List.getElem?_append_right (by omega), e2, List.getElem?_append_left (by omega)] at hu
      exact (hr.2 _ x u hx hu).keep hk
/-- Cells that an append reads, which may name blocks of the call's own. -/
def SrcL (ok : Nat → Prop) (w : World) (lv : Live) (size m : Nat) (cs : List AV) (u : Value) : Prop :=
  ∃ (ao : Option Addr) (c : Nat) (news : List Value), u = .slice ao m c ∧ news.length = m * size ∧ RelAll ok w lv cs news ∧ (0 < m → ∃ g o, ao = some ⟨g, o, none⟩ ∧ ∀ (j : Nat) (v : Value), news[j]? = some v → w.cell? ((⟨g, o, none⟩ : Addr).add j) = some v)
theorem src_ls {B : Bse} {ok0 : Nat → Prop} {s : SS} {lv : Live} {a : Act} {w : World} (hs : Sim B ok0 N s lv a w) {id2 es m : Nat} {cs : List AV} {u : Value} (hid : s.h id2 = some (matO cs)) (hl : cs.length = m * es) (hu : Rel (okOf B ok0 lv w) w lv (.ls id2 es m) u) : SrcL (okOf B ok0 lv w) w lv es m cs u ∧ ∀ c ∈ cs, cellA c = true := by
  obtain ⟨bo, n, hlv, hown⟩ := hs.inv.obj id2 _ hid
  cases hu with
  | ls _ hone hls =>
    have hlsv := hls bo n hlv
    cases bo with
    | none =>
      obtain rfl := own_matO_none hown
      obtain ⟨rfl, rfl⟩ := hlsv
      exact ⟨⟨none, 0, [], rfl, by simp, ⟨rfl, fun i x u h => by simp at h⟩, fun h => by omega⟩, fun c hc => by cases hc⟩
    | some b =>
      obtain ⟨cap, rfl, h1, h2, h3⟩ := hlsv
      obtain ⟨_, _, ho⟩ := hown
      obtain ⟨cu, e', g1, g2, g3, g4, g5⟩ := objAt_matO.1 ho
      refine ⟨⟨some ⟨b, 0, none⟩, cap, cu.toList.take cs.length, rfl, by simp; omega, ⟨by simp; omega, fun j x u hx hu => ?_⟩, fun _ => ⟨b, 0, rfl, fun j v hj => ?_⟩⟩, g4⟩
      · have hlt := (List.getElem?_eq_some_iff.1 hx).1
        rw [List.getElem?_take, if_pos hlt] at hu
        exact g5 j x u hx (by simpa using hu)
      · rw [List.getElem?_take] at hj
        split at hj
        · rw [addr_add]; simp only [World.cell?, g1, Nat.zero_add]; simpa using hj
        · cases hj
theorem append_worldM {B : Bse} {ok0 : Nat → Prop} {s : SS} {lv : Live} {a : Act} {w : World} (hs : Sim B ok0 N s lv a w) {ti e es eb : Nat} {ea : Bool} {ez : List Value} (hk : KindOK P ti (.slc e es ea eb ez)) {id len m : Nat} {xs cs : List AV} {v u : Value} (hid : s.h id = some (matO xs)) (hxl : xs.length = len * es)
    (hv : Rel (okOf B ok0 lv w) w lv (.ls id es len) v) (hsrc : SrcL (okOf B ok0 lv w) w lv es m cs u) (hcc : ∀ c ∈ cs, cellA c = true) (hxm : ∀ c ∈ xs, ment id c = false) (hcp : ∀ c ∈ cs, ment id c = false) (hlim : len + m ≤ 4294967296 ∧ (len + m) * eb ≤ 140737488355328)
    {s' : SS} (ht : ∀ x y, s'.t x = some y → y = .any ∨ (s.t x = some y ∧ ment id y = false)) (hlt : ∀ x y, s'.t x = some y → ∃ z, s.t x = some z) (hh : ∀ j ob', j ≠ id → s'.h j = some ob' → mentO id ob' = false ∧ ∃ ob, s.h j = some ob ∧ ForgO ob ob') (hid' : s'.h id = some (matO (xs ++ cs))) :
    ∃ v' w' lv', (Builtin.append_ #[ti, ti] ty #[v, u]).run P w = .ok v' w' ∧ Sim B ok0 N s' lv' a w' ∧ Rel (okOf B ok0 lv' w') w' lv' (.ls id es (len + m)) v' := by
  obtain ⟨hu, hsz, hby, hz, hzl, hpos⟩ := hk
  obtain ⟨i, hi, hisz, hiby, zv, hiz, hizc⟩ : ∃ i, P.info? e = some i ∧ i.size = es ∧ i.bytes = eb ∧ ∃ zv, i.zero = some zv ∧ zv.cells = ez.toArray := by
    cases hi : P.info? e with
    | none => simp [hi] at hby
    | some i =>
      have h1 := hsz.1
      unfold ZeroOK at hz
      simp only [hi, Option.map_some, Option.some.injEq] at hby h1 hz
      cases hzz : i.zero with
      | none => simp [hzz] at hz
      | some zv => simp only [hzz, Option.map_some, Option.some.injEq] at hz; exact ⟨i, rfl, h1, hby, zv, hzz, hz⟩
  obtain ⟨ao, c, news, rfl, hnl, hnr, hna⟩ := hsrc
  have hcl : cs.length = m * es := by rw [← hnr.1, hnl]
  -- the state with the block written in place, or the same, forgets
  have forget : ∀ (w' : World) (lv1 : Live), Sim B ok0 N ⟨s.t, hupd s.h id (some (matO (xs ++ cs)))⟩ lv1 a w' → ∃ lv', Sim B ok0 N s' lv' a w' ∧ lv' id = lv1 id := by
    intro w' lv1 h1
    obtain ⟨lv', g1, g2, g3, g4⟩ := h1.forg (s' := s') (fun x y hy => (ht x y hy).imp (fun h => h) And.left) hlt (fun j ob' hj => by
      by_cases hji : j = id
      · subst hji
        rw [hid'] at hj
        cases hj
        exact ⟨matO (xs ++ cs), by simp [hupd], .inl rfl⟩
      · obtain ⟨_, ob, q1, q2⟩ := hh j ob' hji hj
        exact ⟨ob, by simp [hupd, hji, q1], q2⟩)
    exact ⟨lv', g1, g3 id (by simp [hid'])⟩
  have hvs : ∀ u ∈ news, u.oneCell' = true := fun u hu => by
    obtain ⟨j, hj⟩ := List.getElem?_of_mem hu
    obtain ⟨q, hq⟩ : ∃ q, cs[j]? = some q := ⟨_, List.getElem?_eq_getElem (by have := (List.getElem?_eq_some_iff.1 hj).1; rw [hnr.1] at this; exact this)⟩
    exact (hnr.2 j q u hq hj).oneCell (hcc q (List.mem_of_getElem? hq))
  obtain ⟨bo, n, hl, hown⟩ := hs.inv.obj id _ hid
  cases hv with
  | ls _ hone hls =>
    have hlsv := hls bo n hl
    by_cases hm : m = 0
    · subst hm
      have hcs : cs = [] := List.eq_nil_of_length_eq_zero (by omega)
      subst hcs
      have hsame : (⟨s.t, hupd s.h id (some (matO (xs ++ [])))⟩ : SS) = s := by
        have : hupd s.h id (some (matO (xs ++ []))) = s.h := by
          funext j
          by_cases hj : j = id
          · subst hj; simp [hupd, hid]
          · simp [hupd, hj]
        rw [this]
      obtain ⟨lv', q1, q2⟩ := forget w lv (by rw [hsame]; exact hs)
      cases bo with
      | none =>
        obtain ⟨rfl, rfl⟩ := hlsv
        refine ⟨_, w, lv', run_append_zero ti ty e i hu hi none ao 0 0 c (Nat.le_refl _), q1, .ls _ rfl fun b n' hb => ?_⟩
        rw [q2, hl] at hb; cases hb; exact ⟨rfl, rfl⟩
      | some b =>
        obtain ⟨cap, rfl, h1, h2, h3⟩ := hlsv
        refine ⟨_, w, lv', run_append_zero ti ty e i hu hi _ ao len cap c h1, q1, .ls _ rfl fun b' n' hb => ?_⟩
        rw [q2, hl] at hb; cases hb; exact ⟨cap, rfl, h1, h2, h3⟩
    · obtain ⟨g, q, rfl, hcell⟩ := hna (by omega)
      -- a new block
      have grown : ∀ (old : Nat) (olds : List Value), RelAll (okOf B ok0 lv w) w lv xs olds → old < len + m →
          let cap := grownCap w (len + m) old e
          let w' := w.drew.alloc (.cells (olds.toArray ++ news.toArray ++ Builtin.zeroCells zv.cells (cap - (len + m))) e)
          ∃ lv', Sim B ok0 N s' lv' a w' ∧ Rel (okOf B ok0 lv' w') w' lv' (.ls id es (len + m)) (.slice (some ⟨w.heap.size, 0, none⟩) (len + m) cap) := by
        intro old olds hor hold
        have hge := grownCap_ge w (len + m) old e
        have hmx : grownCap w (len + m) old e ≤ maxLen := grownCap_le_maxLen w (len + m) old e (by unfold maxLen; omega)
        intro cap w'
        -- first forget, id given up
        obtain ⟨lv0, q1, q2, q3, q4⟩ := hs.forg (s' := ⟨s'.t, fun j => if j = id then none else s'.h j⟩) (fun x y hy => (ht x y hy).imp (fun h => h) And.left) hlt (fun j ob' hj => by
          simp only at hj
          split at hj
          · cases hj
          · rename_i hji; exact (hh j ob' hji hj).2)
        have q0 : Sim B ok0 N ⟨s'.t, fun j => if j = id then none else s'.h j⟩ lv0 a w.drew := q1.drew (Below.drew (Below.refl _ _))
        have hall : RelAll (okOf B ok0 lv0 w.drew) w.drew lv0 (xs ++ cs) (olds ++ news) := by
          refine ⟨by simp [hor.1, hnr.1], fun j x u hx hu => ?_⟩
          rcases Nat.lt_or_ge j xs.length with h1 | h1
          · rw [List.getElem?_append_left h1] at hx
            rw [List.getElem?_append_left (by rw [hor.1]; exact h1)] at hu
            exact ((hor.2 j x u hx hu).relive fun id b n hb hmm => q2 id b n hb).keep fun g hg => ⟨q4 g hg, rfl⟩
          · rw [List.getElem?_append_right h1] at hx
            rw [List.getElem?_append_right (by rw [hor.1]; exact h1), hor.1] at hu
            exact ((hnr.2 _ x u hx hu).relive fun id b n hb hmm => q2 id b n hb).keep fun g hg => ⟨q4 g hg, rfl⟩
        have hcell' : ∀ x ∈ xs ++ cs, cellA x = true := by
          intro x hx
          rcases List.mem_append.1 hx with hx | hx
          · cases bo with
            | none => rw [own_matO_none hown] at hx; cases hx
            | some b => obtain ⟨_, _, ho⟩ := hown; obtain ⟨c, e, _, _, _, g4, _⟩ := objAt_matO.1 ho; exact g4 x hx
          · exact hcc x hx
        have hm' : mentO id (matO (xs ++ cs)) = false := by
          rw [mentO_matO, mentL_app, mentL_of_all hxm, mentL_of_all hcp]; rfl
        have hfr : Fresh (⟨s'.t, fun j => if j = id then none else s'.h j⟩ : SS) id := by
          refine ⟨by simp, fun x y hy => ?_, fun j ob hj => ?_⟩
          · rcases ht x y hy with rfl | ⟨_, hm⟩
            · rfl
            · exact hm
          · simp only at hj
            split at hj
            · cases hj
            · rename_i hji; exact (hh j ob hji hj).1
        have hzc : (olds ++ news).length + (Builtin.zeroCells zv.cells (cap - (len + m))).toList.length = cap * es := by
          have e1 := size_zeroCells zv.cells (cap - (len + m))
          rw [hizc] at e1
          simp only [List.size_toArray, hzl] at e1
          rw [hizc]
          simp only [Array.length_toList, List.length_append, e1, hor.1, hxl, hnl]
          rw [← Nat.add_mul, ← Nat.add_mul]
          congr 1
          omega
        have hw' : w' = w.drew.alloc (.cells ((olds ++ news) ++ (Builtin.zeroCells zv.cells (cap - (len + m))).toList).toArray e) := by
          simp only [w']
          congr 2
          simp
        have hnew := q0.newBlock (ob := matO (xs ++ cs)) (n := cap * es) hfr (w' := w') (by rw [hw']; exact below_alloc w.drew _) (by rw [hw']; simp) hm' (fun h => by rw [isC_matO] at h; cases h)
          (fun ok' lv' g1 g2 => objAt_matO.2 (blk_new (e := e) hzc.symm (by rw [hw']; exact heap_alloc_eq w.drew _) hall hcell' ok' lv' g1 (fun i b mm hb hmm => g2 i b mm hb (by rw [mentO_matO]; exact hmm))))
        have hs'' : (⟨s'.t, hupd (fun j => if j = id then none else s'.h j) id (some (matO (xs ++ cs)))⟩ : SS) = s' := by
          have : hupd (fun j => if j = id then none else s'.h j) id (some (matO (xs ++ cs))) = s'.h := by
            funext j
            by_cases hj : j = id
            · subst hj; simp [hupd, hid']
            · simp [hupd, hj]
          rw [this]
        rw [hs''] at hnew
        refine ⟨_, hnew, .ls _ rfl fun b n' hb => ?_⟩
        simp only [setLv, if_true, Option.some.injEq, Prod.mk.injEq] at hb
        obtain ⟨rfl, rfl⟩ := hb
        exact ⟨cap, rfl, hge, hmx, rfl⟩
      cases bo with
      | none =>
        obtain rfl := own_matO_none hown
        obtain ⟨rfl, rfl⟩ := hlsv
        have hr := run_append_nil (P := P) w ti ty e i zv hu hi hiz ⟨g, q, none⟩ m c news (by rw [hisz]; exact hnl) hcell (by omega) (by omega) (by have := hlim.2; rw [hiby]; simp only [Nat.zero_add] at this; omega)
        obtain ⟨lv', g1, g2⟩ := grown 0 [] ⟨rfl, fun i x u h => by simp at h⟩ (by omega)
        simp only [Nat.zero_add, Array.empty_append] at hr g1 g2 ⊢
        exact ⟨_, _, lv', hr, g1, g2⟩
      | some b =>
        obtain ⟨cap, rfl, hlc, hmx, hcn⟩ := hlsv
        obtain ⟨hb1, hb2, ho⟩ := hown
        obtain ⟨cu, e', g1, g2, g3, g4, g5⟩ := objAt_matO.1 ho
        by_cases hroom : len + m ≤ cap
        · have hfit : len * es + news.length ≤ cu.size := by rw [hnl, g2, ← hcn, ← Nat.add_mul]; exact Nat.mul_le_mul_right _ hroom
          have hr := run_append_room' (P := P) (w := w) ti ty e e' i hu hi b len cap cu g1 ⟨g, q, none⟩ m c news (by rw [hisz]; exact hnl) hcell hvs hroom (by rw [hisz]; exact hfit)
          rw [hisz] at hr
          have hwr := hs.write (w' := w.setRow b (cu.toList.take (len * es) ++ news ++ cu.toList.drop (len * es + news.length)).toArray) hl rfl rfl rfl (by simp) (fun g hg => setRow_other w b g _ hg) (ob := matO (xs ++ cs)) (fun h => by rw [isC_matO] at h; cases h)
            (fun ok' hk => objAt_matO.2 (blk_appL (w := w) g2 hxl g4 g5 hnr hcc (by omega) (setRow_heap w b cu _ e' _ g1) ok' hk))
          obtain ⟨lv', q1, q2⟩ := forget _ _ hwr
          refine ⟨_, _, lv', hr, q1, .ls _ rfl fun b' n' hb => ?_⟩
          rw [q2, hl] at hb; cases hb; exact ⟨cap, rfl, hroom, hmx, hcn⟩
        · have hxle : xs.length ≤ cu.size := by omega
          have hor : RelAll (okOf B ok0 lv w) w lv xs (cu.toList.take xs.length) := ⟨by simp; omega, fun j x u hx hu => by
            have hlt := (List.getElem?_eq_some_iff.1 hx).1
            rw [List.getElem?_take, if_pos hlt] at hu
            exact g5 j x u hx (by simpa using hu)⟩
          have hr := run_append_grow (P := P) w ti ty e i zv hu hi hiz ⟨b, 0, none⟩ len cap (cu.toList.take xs.length) (by simp [hisz]; omega) (fun j v hj => by
            rw [List.getElem?_take] at hj
            split at hj
            · rw [addr_add]; simp only [World.cell?, g1, Nat.zero_add]; simpa using hj
            · cases hj) ⟨g, q, none⟩ m c news (by rw [hisz]; exact hnl) hcell (by omega) (by omega) (by rw [hiby]; exact growslice_fits (by omega) hlim.2)
          obtain ⟨lv', q1, q2⟩ := grown cap _ hor (by omega)
          exact ⟨_, _, lv', hr, q1, q2⟩
theorem appendM_loud (hT : TOK P T) {o : Oper} {ti e es eb sz : Nat} {ea ag : Bool} {ez z : List Value} {x y : Operand} {id id2 len m : Nat} {xs cs : List AV} {s s' : SS} (ho : o.op = .call { callee := .builtin .append, args := #[x, y], argTypes := #[ti, ti] }) (hd : o.dst = some d) (hdN : d < N) (hk : T ti = some ⟨.slc e es ea eb ez, sz, ag, z⟩)
    (hx : evF s.t x = some (.ls id es len)) (hid : s.h id = some (matO xs)) (hxl : xs.length = len * es) (hy : evF s.t y = some (.ls id2 es m)) (hid2 : s.h id2 = some (matO cs)) (hcl : cs.length = m * es) (hxm : ∀ c ∈ xs, ment id c = false) (hcp : ∀ c ∈ cs, ment id c = false) (hlim : len + m ≤ 4294967296 ∧ (len + m) * eb ≤ 140737488355328)
    (ht : ∀ x y, s'.t x = some y → y = .any ∨ (s.t x = some y ∧ ment id y = false)) (hlt : ∀ x y, s'.t x = some y → ∃ z, s.t x = some z) (hh : ∀ j ob', j ≠ id → s'.h j = some ob' → mentO id ob' = false ∧ ∃ ob, s.h j = some ob ∧ ForgO ob ob') (hid' : s'.h id = some (matO (xs ++ cs))) :
    LoudAt P N o s (· = ⟨updF s'.t (some d) (.ls id es (len + m)), s'.h⟩) := by
  intro B ok0 lv a w hs Q
  obtain ⟨h1, h2⟩ := src_ls hs hid2 hcl (hs.eval hy)
  obtain ⟨v', w', lv', hrun0, hs', hrel⟩ := append_worldM (ty := o.type) hs (hT _ _ hk).2.2 hid hxl (hs.eval hx) h1 h2 hxm hcp hlim ht hlt hh hid'
  have hrun : (execOp a.eval o).run P w = .ok (.value v') w' := by
    simp only [execOp, ho, resolve, invoke, builtin, Sem.run_bind, Sem.run_pure, Result.andThen_ok, List.map_toArray, List.map_cons, List.map_nil, hrun0]
  unfold Oper.wp
  rw [hrun]
  simp only [Oper.upon, hd]
  exact ⟨_, lv', rfl, hs'.putOnly hdN hrel⟩
/-- A slice of own rows, written out. -/
theorem buildM_loud (hT : TOK P T) {o : Oper} {ti e es eb sz len : Nat} {ea ag : Bool} {ez z : List Value} {parts : List (Nat × Operand)} {ps : List (Nat × AV)} {ys : List AV} {s : SS} (id : Nat) (ho : o.op = .buildSlice ti len parts.toArray) (hd : o.dst = some d) (hdN : d < N) (hk : T ti = some ⟨.slc e es ea eb ez, sz, ag, z⟩) (hone : ez.all Value.oneCell' = true)
    (hps : evP (evF s.t) parts = some ps) (hf : fillA (fun i => some (i * es, es)) (repA len (vMap ez)) ps = some ys) (hlen : ys.length = len * es) (hlim : Nat.ble (len * es) 16777216 = true) (hfr : Fresh s id) (hm : ment.mentL id ys = false) :
    LoudAt P N o s (· = ⟨updF s.t (some d) (.ls id es len), hupd s.h id (some (matO ys))⟩) := by
  intro B ok0 lv a w hs Q
  obtain ⟨h1, h2⟩ := evP_rel (ok := okOf B ok0 lv w) (w := w) (lv := lv) (a := a) hps fun x y hx hxy => hs.eval hxy
  obtain ⟨hu, hsz, _, hz, hzl, hpos⟩ := (hT _ _ hk).2.2
  obtain ⟨zv, hz1, hz2⟩ := hz.run (w := w)
  obtain ⟨out, g1, g2, g3⟩ := fill_rel (place' := fun i => some (i * es, es)) (fun i p h => h) hf (repA_rel (z := ez) len (by omega)) (repA_cell (vMap_cell hone) len) h1 h2
  have hlim' : len * es ≤ 16777216 := by simpa using hlim
  have hle : len ≤ len * es := Nat.le_mul_of_pos_right _ hpos
  have hrun : (execOp a.eval o).run P w = .ok (.value (.slice (some ⟨w.heap.size, 0, none⟩) len len)) (w.alloc (.cells out.toArray e)) := by
    have e' : Instr.fill (fun i => some (i * es, es)) (madeCells ez.toArray (len * es)) (parts.toArray.map fun x => (x.1, a.eval x.2)).toList = some out.toArray := by
      have : (madeCells ez.toArray (len * ez.length)).toList.toArray = madeCells ez.toArray (len * es) := by rw [hzl]
      rw [← this]
      have e : (parts.toArray.map fun x => (x.1, a.eval x.2)).toList = parts.map fun x => (x.1, a.eval x.2) := by simp
      rw [e]; exact g1
    unfold madeCells at e'
    have n1 : ¬ (len * es > 2 ^ 24) := by omega
    by_cases h0 : len * es = 0
    · have hl0 : len = 0 := by omega
      subst hl0
      simp only [Nat.zero_mul, Array.range_zero', Array.map_empty] at e'
      simp [execOp, ho, Instr.buildSlice, run_underlying hu, (hsz.run (w := w)).1, newRow, Array.range_zero']
      simp at e'
      rw [e']
      simp
    · simp only [execOp, ho, Instr.buildSlice, Sem.run_bind, run_underlying hu, (hsz.run (w := w)).1, Result.andThen_ok, if_neg n1, if_neg h0, hz1, hz2, Sem.run_pure, e', newRow]
      simp
  unfold Oper.wp
  rw [hrun]
  simp only [Oper.upon, hd]
  have hnew := hs.newBlock (ob := matO ys) (n := len * es) hfr (w' := w.alloc (.cells out.toArray e)) (below_alloc w _) (by simp) (by rw [mentO_matO]; exact hm) (fun h => by rw [isC_matO] at h; cases h)
    (fun ok' lv' k1 k2 => objAt_matO.2 (blk_new (e := e) (extra := []) (by rw [g2.1, hlen]; simp) (by rw [List.append_nil]; exact heap_alloc_eq w _) g2 g3 ok' lv' k1 fun i b mm hb hmm => k2 i b mm hb (by rw [mentO_matO]; exact hmm)))
  refine ⟨_, _, rfl, hnew.putOnly hdN (.ls _ rfl fun b n' hb => ?_)⟩
  simp only [setLv, if_true, Option.some.injEq, Prod.mk.injEq] at hb
  obtain ⟨rfl, rfl⟩ := hb
  exact ⟨len, rfl, Nat.le_refl _, by unfold maxLen; omega, rfl⟩
theorem L_buildM (hT : TOK P T) {ti e es eb sz len : Nat} {ea ag : Bool} {ez z : List Value} {parts : List (Nat × Operand)} {ps : List (Nat × AV)} {ys : List AV} (id : Nat) (hk : T ti = some ⟨.slc e es ea eb ez, sz, ag, z⟩) (hone : ez.all Value.oneCell' = true)
    (hps : evP (evF (look t)) parts = some ps) (hf : fillA (fun i => some (i * es, es)) (repA len (vMap ez)) ps = some ys) (hlen : ys.length = len * es) (hlim : Nat.ble (len * es) 16777216 = true) (hfr : Fresh (S t h) id) (hm : ment.mentL id ys = false)
    (hl : lf ⟨some d, .buildSlice ti len parts.toArray, ty, pos, af, gd⟩ = true) (hw : wantedF ops (look t) ⟨some d, .buildSlice ti len parts.toArray, ty, pos, af, gd⟩ = some true) (hd : Nat.blt d N = true) (k : Lex P N ops lf Q rest (S ((d, .ls id es len) :: t) ((id, some (matO ys)) :: h))) :
    Lex P N ops lf Q (⟨some d, .buildSlice ti len parts.toArray, ty, pos, af, gd⟩ :: rest) (S t h) := by
  refine L_loud hl hw ?_ k
  have := buildM_loud (N := N) (s := S t h) (P := P) hT (o := ⟨some d, .buildSlice ti len parts.toArray, ty, pos, af, gd⟩) id rfl rfl (by simpa using hd) hk hone hps hf hlen hlim hfr hm
  rwa [show (⟨updF (S t h).t (some d) (.ls id es len), hupd (S t h).h id (some (matO ys))⟩ : SS) = S ((d, .ls id es len) :: t) ((id, some (matO ys)) :: h) from S_upd] at this
/-- Slots that are kept: their values name no block id. -/
def subTM (id : Nat) (t : List (Nat × AV)) : List (Nat × AV) → Prop
  | [] => True
  | (x, y) :: t' => (look t x = some y ∧ ment id y = false) ∧ subTM id t t'
theorem subTM_nil {id : Nat} {t : List (Nat × AV)} : subTM id t [] := trivial
theorem subTM_cons {id : Nat} {t : List (Nat × AV)} {x : Nat} {y : AV} {t' : List (Nat × AV)} (h1 : look t x = some y) (h2 : ment id y = false) (h : subTM id t t') : subTM id t ((x, y) :: t') := ⟨⟨h1, h2⟩, h⟩
theorem subTM_look {id : Nat} {t : List (Nat × AV)} : ∀ {t' : List (Nat × AV)}, subTM id t t' → ∀ x y, look t' x = some y → look t x = some y ∧ ment id y = false
  | [], _, x, y, h => by simp [look] at h
  | (s, z) :: t', hs, x, y, h => by
    simp only [look] at h
    split at h
    · rename_i e
      have e : x = s := by simpa using e
      subst e
      simp only [Option.some.injEq] at h
      subst h
      exact hs.1
    · exact subTM_look hs.2 x y h
theorem hlook_mid : ∀ {f g : List (Nat × Option LObj)} {M j : Nat} {a b : Option LObj}, j ≠ M → hlook (f ++ (M, a) :: g) j = hlook (f ++ (M, b) :: g) j
  | [], g, M, j, a, b, h => by rw [List.nil_append, List.nil_append, hlook_ne h, hlook_ne h]
  | (x, o) :: f, g, M, j, a, b, h => by
    simp only [List.cons_append, hlook]
    split
    · rfl
    · exact hlook_mid h
/-- No object names M. -/
def noMent (M : Nat) : List (Nat × Option LObj) → Bool
  | [] => true
  | (_, o) :: f => (match o with
    | none => true
    | some o => !mentO M o) && noMent M f
theorem noMent_look {M : Nat} : ∀ {f : List (Nat × Option LObj)} {j : Nat} {ob : LObj}, noMent M f = true → hlook f j = some ob → mentO M ob = false
  | [], j, ob, _, h => by simp [hlook] at h
  | (x, o) :: f, j, ob, hn, h => by
    simp only [noMent, Bool.and_eq_true] at hn
    simp only [hlook] at h
    split at h
    · subst h
      simpa using hn.1
    · exact noMent_look hn.2 h
theorem ment_matC_self {M sz : Nat} (hM : M < 1000000) (k : Nat) (rows : List (List AV)) : ment.mentL M (matC M sz k rows) = false := ment_matC k rows fun i _ _ => fam_ne hM
/-- One own row appended to a slice of rows. -/
theorem L_appendRow (hT : TOK P T) {ti e eb z0 : Nat} {ea ag : Bool} {ez z : List Value} {x y : Operand} {M n d2 sz k : Nat} {r : List AV} {rows : List (List AV)} {f : List (Nat × Option LObj)} {t' : List (Nat × AV)} (hk : T ti = some ⟨.slc e 1 ea eb ez, z0, ag, z⟩) (hx : evF (look t) x = some (.ls M 1 n)) (hy : evF (look t) y = some (.ls d2 1 1))
    (hf : lowH f = true) (hM : Nat.blt M 1000000 = true) (hd2 : Nat.blt d2 1000000 = true) (hne : Nat.beq M d2 = false) (hkey : (f.all fun x => !Nat.beq x.1 M) = true) (hkey2 : (f.all fun x => !Nat.beq x.1 d2) = true) (hno : noMent M f = true) (hn : n = rows.length) (hr : r.length / sz = k) (hlim : n + 1 ≤ 4294967296 ∧ (n + 1) * eb ≤ 140737488355328)
    (ht : subTM M t t') (hl : lf ⟨some d, .call { callee := .builtin .append, args := #[x, y], argTypes := #[ti, ti] }, ty, pos, af, gd⟩ = true)
    (hw : wantedF ops (look t) ⟨some d, .call { callee := .builtin .append, args := #[x, y], argTypes := #[ti, ti] }, ty, pos, af, gd⟩ = some true) (hd : Nat.blt d N = true) (kk : Lex P N ops lf Q rest (S ((d, .ls M 1 (n + 1)) :: t') (f ++ matH M sz (rows ++ [r]) []))) :
    Lex P N ops lf Q (⟨some d, .call { callee := .builtin .append, args := #[x, y], argTypes := #[ti, ti] }, ty, pos, af, gd⟩ :: rest) (S t ((d2, some (matO [.ls (fam M n) sz k])) :: (fam M n, some (.vec r)) :: (f ++ matH M sz rows []))) := by
  have hM' : M < 1000000 := by simpa using hM
  have hd2' : d2 < 1000000 := by simpa using hd2
  have hne' : M ≠ d2 := fun e => by subst e; simp at hne
  have e0 : hlook (f ++ matH M sz rows []) M = some (matO (matC M sz 0 rows)) := by rw [mat_outer hkey, List.append_nil]
  have hadd := mat_add (sz := sz) (rows := rows) (r := r) (ex := [.ls (fam M n) sz k]) (ex' := []) hf hM' hn (by rw [hr])
  have hat : ∀ j, j ≠ M → hlook (f ++ matH M sz (rows ++ [r]) []) j = hlook ((fam M n, some (.vec r)) :: (f ++ matH M sz rows [])) j := by
    intro j hj
    rw [← hadd]
    by_cases hj2 : j = fam M n
    · subst hj2; rw [hlook_eq, hlook_eq]
    · rw [hlook_ne hj2, hlook_ne hj2]
      exact hlook_mid hj
  have hnd2 : hlook (f ++ matH M sz rows []) d2 = none := by
    rw [hlook_app f _ (keys_ne hkey2), matH, hlook_ne (Ne.symm hne'), famL_no M 0 rows fun i _ => fam_ne hd2']
  obtain ⟨g1, g2⟩ : (∀ x y, look t' x = some y → y = .any ∨ (look t x = some y ∧ ment M y = false)) ∧ ∀ x y, look t' x = some y → ∃ z, look t x = some z := ⟨fun x y h => .inr (subTM_look ht x y h), fun x y h => ⟨y, (subTM_look ht x y h).1⟩⟩
  have e : S ((d, .ls M 1 (n + 1)) :: t') (f ++ matH M sz (rows ++ [r]) []) = (⟨updF (S t' (f ++ matH M sz (rows ++ [r]) [])).t (some d) (.ls M 1 (n + 1)), (S t' (f ++ matH M sz (rows ++ [r]) [])).h⟩ : SS) := by
    unfold S; rw [look_cons]
  refine L_loud hl hw ?_ kk
  rw [e]
  refine appendM_loud (id := M) (id2 := d2) (len := n) (m := 1) (xs := matC M sz 0 rows) (cs := [.ls (fam M n) sz k]) hT rfl rfl (by simpa using hd) hk hx ?_ (by rw [matC_len, hn]; omega) hy ?_ (by simp) (mentL_all (ment_matC_self hM' 0 rows)) (fun c hc => ?_) hlim g1 g2 (fun j ob' hj hob => ?_) ?_
  · simp only [S]
    rw [hlook_ne hne', hlook_ne (fam_ne hM'), e0]
  · simp only [S]; rw [hlook_eq]
  · rcases List.mem_singleton.1 hc with rfl
    exact beq_ne (Ne.symm (fam_ne hM'))
  · simp only [S] at hob ⊢
    rw [hat j hj] at hob
    have hjd : j ≠ d2 := by
      rintro rfl
      rw [hlook_ne (fam_ne hd2'), hnd2] at hob
      cases hob
    refine ⟨?_, ob', by rw [hlook_ne hjd]; exact hob, .inl rfl⟩
    by_cases hj2 : j = fam M n
    · subst hj2; rw [hlook_eq] at hob; cases hob; rfl
    · rw [hlook_ne hj2] at hob
      rcases hlook_app2 f (matH M sz rows []) (j := j) with h | ⟨_, h⟩
      · rw [h] at hob
        exact noMent_look hno hob
      · rw [h, matH, hlook_ne hj] at hob
        by_cases hb : ∃ i, j = fam M i
        · obtain ⟨i, rfl⟩ := hb
          have := famL_at M 0 i rows
          rw [Nat.zero_add] at this
          rw [this] at hob
          cases hri : rows[i]? with
          | none => rw [hri] at hob; cases hob
          | some q => rw [hri] at hob; cases hob; rfl
        · rw [famL_no M 0 rows fun i _ e => hb ⟨i, e⟩] at hob; cases hob
  · simp only [S]
    rw [mat_outer hkey, matC_snoc, List.append_nil, Nat.zero_add, hr, hn]
/-- Elements appended to a slice of the call's own that nothing in memory names; t': what is kept of the slots. -/
theorem L_appendV (hT : TOK P T) {ti e es eb sz : Nat} {ea ag : Bool} {ez z : List Value} {x y : Operand} {id len : Nat} {xs : List AV} {rows : List (List AV)} {t' : List (Nat × AV)} {h0 : List (Nat × Option LObj)} (hk : T ti = some ⟨.slc e es ea eb ez, sz, ag, z⟩) (hx : evF (look t) x = some (.ls id es len)) (hxl : xs.length = len * es) (hy : evF (look t) y = some (.sl es rows))
    (hcp : ∀ c ∈ rows.flatten, pureA c = true) (hlim : len + rows.length ≤ 4294967296 ∧ (len + rows.length) * eb ≤ 140737488355328) (ht : subTM id t t') (h2 : freshH id h0 = true) (hl : lf ⟨some d, .call { callee := .builtin .append, args := #[x, y], argTypes := #[ti, ti] }, ty, pos, af, gd⟩ = true)
    (hw : wantedF ops (look t) ⟨some d, .call { callee := .builtin .append, args := #[x, y], argTypes := #[ti, ti] }, ty, pos, af, gd⟩ = some true) (hd : Nat.blt d N = true) (k : Lex P N ops lf Q rest (S ((d, .ls id es (len + rows.length)) :: t') ((id, some (.vec (xs ++ rows.flatten))) :: h0))) :
    Lex P N ops lf Q (⟨some d, .call { callee := .builtin .append, args := #[x, y], argTypes := #[ti, ti] }, ty, pos, af, gd⟩ :: rest) (S t ((id, some (.vec xs)) :: h0)) := by
  have e : S ((d, .ls id es (len + rows.length)) :: t') ((id, some (.vec (xs ++ rows.flatten))) :: h0) = (⟨updF (S t' ((id, some (.vec (xs ++ rows.flatten))) :: h0)).t (some d) (.ls id es (len + rows.length)), (S t' ((id, some (.vec (xs ++ rows.flatten))) :: h0)).h⟩ : SS) := by
    unfold S; rw [look_cons]
  refine L_loud hl hw ?_ k
  rw [e]
  refine append_loud hT rfl rfl (by simpa using hd) hk hx (by simp [S, hlook]) hxl hy (fun ok w lv u hr => src_sl hr) hcp hlim (fun x y h => .inr (subTM_look ht x y h)) (fun x y h => ⟨y, (subTM_look ht x y h).1⟩) (fun j ob' hj hob => ?_) ?_
  · simp only [S] at hob ⊢
    rw [hlook_ne hj] at hob ⊢
    exact ⟨(freshH_look h2).2 j ob' hob, ob', hob, .inl rfl⟩
  · simp [S, hlook]
/-- A slice of the call's own under another number. -/
theorem A_rename {c : Code} {Q : Exit → SS → Prop} {t t' : List (Nat × AV)} {h h' : List (Nat × Option LObj)} (d id new : Nat) {sz n : Nat} {r : List AV} (hd : look t d = some (.ls id sz n)) (hid : hlook h id = some (.vec r)) (hf : Fresh (S t h) new) (ht : subT t t') (hnew : hlook h' new = some (.vec r))
    (hh : ∀ j ob, j ≠ new → hlook h' j = some ob → j ≠ id ∧ hlook h j = some ob) (k : A P N c Q (S ((d, .ls new sz n) :: t') h')) : A P N c Q (S t h) := by
  intro B ok0 lv a w hs
  have hne : new ≠ id := by rintro rfl; have := hf.1; simp only [S] at this; rw [hid] at this; cases this
  let lv' : Live := fun j => if j = new then lv id else if j = id then none else if (hlook h' j).isSome then lv j else none
  have hblk : ∀ j b m, lv' j = some (b, m) → (j = new ∧ lv id = some (b, m)) ∨ (j ≠ new ∧ j ≠ id ∧ (hlook h' j).isSome = true ∧ lv j = some (b, m)) := by
    intro j b m hj
    simp only [lv'] at hj
    split at hj
    · rename_i e; exact .inl ⟨e, hj⟩
    · split at hj
      · cases hj
      · split at hj
        · rename_i h1 h2 h3; exact .inr ⟨h1, h2, h3, hj⟩
        · cases hj
  have hok : ∀ g, okOf B ok0 lv w g → okOf B ok0 lv' w g := fun g hg => ⟨hg.1, hg.2.1, fun j b m hj => by
    rcases hblk j _ m hj with ⟨_, h⟩ | ⟨_, _, _, h⟩
    · exact hg.2.2 id b m h
    · exact hg.2.2 j b m h⟩
  have hrel : ∀ (x : AV) (u : Value), ment new x = false → Rel (okOf B ok0 lv w) w lv x u → Rel (okOf B ok0 lv' w) w lv' x u := fun x u hm hr =>
    (hr.relive fun j b m hj hmj => by
      rcases hblk j _ m hj with ⟨rfl, _⟩ | ⟨_, _, _, h⟩
      · rw [hm] at hmj; cases hmj
      · exact h).keep fun g hg => ⟨hok g hg, rfl⟩
  have hobj : ∀ (ob : LObj) (b m : Nat), mentO new ob = false → ObjAt (okOf B ok0 lv w) lv w b m ob → ObjAt (okOf B ok0 lv' w) lv' w b m ob := fun ob b m hm ho =>
    (ho.relive fun j b m hj hmj => by
      rcases hblk j _ m hj with ⟨rfl, _⟩ | ⟨_, _, _, h⟩
      · rw [hm] at hmj; cases hmj
      · exact h).keep (fun g hg => ⟨hok g hg, rfl⟩) rfl
  refine k B ok0 lv' a w ⟨⟨hs.inv.base, hs.inv.ok0lt, fun j hj => ?_, fun i j b m m' hi hj => ?_, fun j ob hj => ?_⟩, hs.size, fun x y hy => ?_, hs.defers, hs.big, fun j b o hN hj hc hb => ?_⟩
  · simp only [S] at hj
    simp only [lv']
    split
    · rename_i e; subst e; rw [hnew] at hj; cases hj
    · split
      · rfl
      · rw [hj]; rfl
  · rcases hblk i _ m hi with ⟨rfl, h1⟩ | ⟨a1, a2, _, h1⟩ <;> rcases hblk j _ m' hj with ⟨rfl, h2⟩ | ⟨b1, b2, _, h2⟩
    · rfl
    · exact absurd (hs.inv.inj _ _ _ _ _ h1 h2).symm b2
    · exact absurd (hs.inv.inj _ _ _ _ _ h1 h2) a2
    · exact hs.inv.inj _ _ _ _ _ h1 h2
  · simp only [S] at hj
    by_cases hjn : j = new
    · subst hjn
      rw [hnew] at hj
      cases hj
      obtain ⟨b, m, h1, h2⟩ := hs.inv.obj id (.vec r) hid
      refine ⟨b, m, by simp only [lv', if_true]; exact h1, ?_⟩
      cases b with
      | none => exact h2
      | some b => exact ⟨h2.1, h2.2.1, hobj _ _ _ rfl h2.2.2⟩
    · obtain ⟨hji, hj'⟩ := hh j ob hjn hj
      obtain ⟨b, m, h1, h2⟩ := hs.inv.obj j ob hj'
      refine ⟨b, m, by simp only [lv', if_neg hjn, if_neg hji, hj]; exact h1, ?_⟩
      cases b with
      | none => exact h2
      | some b => exact ⟨h2.1, h2.2.1, hobj _ _ _ (hf.2.2 j ob hj') h2.2.2⟩
  · simp only [S, look] at hy
    split at hy
    · rename_i e
      have e : x = d := by simpa using e
      subst e
      simp only [Option.some.injEq] at hy
      subst hy
      obtain ⟨g1, g2⟩ := hs.frame x _ hd
      refine ⟨g1, ?_⟩
      cases g2 with
      | ls _ h1 h2 =>
        refine .ls _ h1 fun b m hb => ?_
        rcases hblk new b m hb with ⟨_, h⟩ | ⟨h, _⟩
        · exact h2 b m h
        · exact absurd rfl h
    · have hy' := subT_look ht x y hy
      obtain ⟨g1, g2⟩ := hs.frame x y hy'
      exact ⟨g1, hrel y _ (hf.2.1 x y hy') g2⟩
  · simp only [S] at hj
    by_cases hjn : j = new
    · subst hjn; rw [hnew] at hj; cases hj; cases hc
    · obtain ⟨hji, hj'⟩ := hh j o hjn hj
      obtain ⟨m, h1⟩ := hs.pin j b o hN hj' hc hb
      exact ⟨m, by simp only [lv', if_neg hjn, if_neg hji, hj]; exact h1⟩
/-- The length of a slice of the call's own. -/
theorem L_lenI (hT : TOK P T) {ti e es eb sz : Nat} {ea ag : Bool} {ez z0 : List Value} {x : Operand} {id z len : Nat} {ob : LObj} (hk : T ti = some ⟨.slc e es ea eb ez, sz, ag, z0⟩) (hx : evF (look t) x = some (.ls id z len)) (hh : hlook h id = some ob)
    (hw : wantedF ops (look t) ⟨some d, .call { callee := .builtin .len, args := #[x], argTypes := #[ti] }, ty, pos, af, gd⟩ = some true) (hd : Nat.blt d N = true) (k : Lex P N ops lf Q rest (S ((d, .v (.int .i64 len)) :: t) h)) : Lex P N ops lf Q (⟨some d, .call { callee := .builtin .len, args := #[x], argTypes := #[ti] }, ty, pos, af, gd⟩ :: rest) (S t h) :=
  L_yield (yield_len_ls (hT _ _ hk).2.2 hx hh) hw hd k
theorem freshT_cons {id x : Nat} {y : AV} {t : List (Nat × AV)} (h1 : ment id y = false) (h2 : freshT id t = true) : freshT id ((x, y) :: t) = true := by simp [freshT, h1, h2]
theorem freshH_cons {id i : Nat} {o : LObj} {h : List (Nat × Option LObj)} (h1 : id ≠ i) (h2 : mentO id o = false) (h3 : freshH id h = true) : freshH id ((i, some o) :: h) = true := by simp [freshH, beq_ne h1, h2, h3]
theorem ment_fam {d M k s n : Nat} (hd : Nat.blt d 1000000 = true) : ment d (.ls (fam M k) s n) = false := beq_ne (Ne.symm (fam_ne (by simpa using hd)))
end Go.Proofs.YtenajilnjeafpaaGreat
set_option linter.unusedVariables false
set_option maxRecDepth 100000
set_option maxHeartbeats 8000000
namespace Go.Proofs.YtenajilnjeafpaaGreat
open Go.RowKit
theorem matR_snoc (c : List (List Int)) (r : List Int) : matR (c ++ [r]) = matR c ++ [r.map i64] := by simp [matR]
theorem rcopy_own (c : List (List Int)) (hn : c.length ≤ 1000) (hm : ∀ r ∈ c, r.length ≤ 1000) : ConM Tryz.prog 57 [encC c] (fun _ => none) (.ls 3 1 c.length) (hlook (matH 3 1 (matR c) [])) := by
  refine conO_of tok Tryz.func57 rfl rfl Tryz.ntmps57 Tryz.results57 rfl rfl ?_
  (repeat (first | refine zI ?_ | refine zL ?_ | refine zC ?_ | refine L_nil ?_ | refine A_seq ?_ | refine zR ?_ | refine zD ?_ | refine zK ?_ | refine zB ?_ | refine zA ?_ | refine zS ?_ | refine zU ?_ | refine zV ?_ | refine zF ?_ | with_reducible refine inblk_n ?_ | with_reducible refine then_n ?_ | refine A_block ?_ | refine A_skip ?_ | refine A_exit ?_ | refine zT ?_ | refine zE ?_ | refine zX ?_))
  refine A_own 3 3 1 rfl rfl rfl ?_
  refine A_invS (α := Nat) (fun k => [(4, i64 k), (0, encC c), (3, .ls 3 1 k)]) (fun k => matH 3 1 (matR (c.take k)) []) (fun k => c.length - k) (fun k => k ≤ c.length) 0 (by omega) (by (repeat (first | exact subT_nil | refine subT_cons rfl ?_))) (hsE (by simp only [matH, matC, famL, List.take_zero, matR, List.map_nil]; rfl)) ?_
  intro k hk
  (repeat (first | refine zI ?_ | refine zL ?_ | refine zC ?_ | refine L_nil ?_ | refine A_seq ?_ | refine zR ?_ | refine zD ?_ | refine zK ?_ | refine zB ?_ | refine zA ?_ | refine zS ?_ | refine zU ?_ | refine zV ?_ | refine zF ?_ | with_reducible refine inblk_n ?_ | with_reducible refine then_n ?_ | refine A_block ?_ | refine A_skip ?_ | refine A_exit ?_ | refine zT ?_ | refine zE ?_ | refine zX ?_))
  refine A_cond rfl (fun h => ?_) (fun h => ?_)
  · simp at h
    obtain ⟨r, hr⟩ := getN (show k < c.length by omega)
    have hrm := hm r (List.mem_of_getElem? hr)
    have htk : (matR (c.take k)).length = k := by simp [matR]; omega
    (repeat (first | refine zI ?_ | refine zL ?_ | refine zC ?_ | refine L_nil ?_ | refine A_seq ?_ | refine zR ?_ | refine zD ?_ | refine zK ?_ | refine zB ?_ | refine zA ?_ | refine zS ?_ | refine zU ?_ | refine zV ?_ | refine zF ?_ | with_reducible refine inblk_n ?_ | with_reducible refine then_n ?_ | refine A_block ?_ | refine A_skip ?_ | refine A_exit ?_ | refine zT ?_ | refine zE ?_ | refine zX ?_))
    refine L_appendNilI tok (fam 3 k) rfl rfl rfl (by intro c hc; rw [ints_flatM] at hc; obtain ⟨x, _, rfl⟩ := List.mem_map.1 hc; rfl) (by constructor <;> simp <;> omega) (fresh_fam (f := []) rfl rfl rfl htk.symm rfl) rfl rfl rfl ?_
    (repeat (first | refine zI ?_ | refine zL ?_ | refine zC ?_ | refine zK ?_ | refine zB ?_ | refine zA ?_ | refine zS ?_ | refine zU ?_ | refine zV ?_ | refine zF ?_ | refine zX ?_ | refine L_nil ?_))
    refine L_buildM tok 17 rfl rfl rfl rfl rfl rfl (fresh_of (freshT_cons (ment_fam rfl) rfl) (freshH_cons (fam_ne (by omega)) rfl (freshM (f := []) rfl rfl rfl rfl))) (mentL_of_all (by intro x hx; rcases List.mem_singleton.1 hx with rfl; exact ment_fam rfl)) rfl rfl rfl ?_
    refine L_appendRow tok (f := []) (t' := [(4, i64 k), (0, encC c)]) rfl rfl rfl rfl rfl rfl rfl rfl rfl rfl htk.symm (by simp [ints_flatM]) (by constructor <;> omega) (by (repeat (first | exact subTM_nil | refine subTM_cons rfl rfl ?_))) rfl rfl rfl ?_
    (repeat (first | refine zI ?_ | refine zL ?_ | refine zC ?_ | refine L_nil ?_ | refine A_seq ?_ | refine zR ?_ | refine zD ?_ | refine zK ?_ | refine zB ?_ | refine zA ?_ | refine zS ?_ | refine zU ?_ | refine zV ?_ | refine zF ?_ | with_reducible refine inblk_n ?_ | with_reducible refine then_n ?_ | refine A_block ?_ | refine A_skip ?_ | refine A_exit ?_ | refine zT ?_ | refine zE ?_ | refine zX ?_))
    refine rndS (k + 1) (by omega) (by omega) (by (repeat (first | exact subT_nil | refine subT_cons rfl ?_))) (hsE ?_)
    rw [take_snocM hr, matR_snoc, ints_flatM]; rfl
  · simp at h
    obtain rfl : k = c.length := by omega
    (repeat (first | refine zI ?_ | refine zL ?_ | refine zC ?_ | refine L_nil ?_ | refine A_seq ?_ | refine zR ?_ | refine zD ?_ | refine zK ?_ | refine zB ?_ | refine zA ?_ | refine zS ?_ | refine zU ?_ | refine zV ?_ | refine zF ?_ | with_reducible refine inblk_n ?_ | with_reducible refine then_n ?_ | refine A_block ?_ | refine A_skip ?_ | refine A_exit ?_ | refine zT ?_ | refine zE ?_ | refine zX ?_))
    refine A_ret ⟨_, rfl, wk_refl _, fun id o ho => ?_⟩
    rw [← List.take_length (l := c)] at ho
    simpa [S] using ho
end Go.Proofs.YtenajilnjeafpaaGreat
