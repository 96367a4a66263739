/- Part 6 of the texts under ExprStopsAtTheError: joined, with what it needs alone. -/
import Derived.Lib.AppendStr
import Derived.Lib.UnsafeStr
import Derived.Lib.Builder
import Derived.Laws.Externs
import Derived.Laws.Pointers
import Derived.LaidEqlPtr
import Derived.Test.YtcpgpiabeimefaaDoorProg
import Derived.KernelRfl
import Derived.Test.YtcpgpiabeimefaaDoorQ4
import Derived.Test.YtcpgpiabeimefaaDoorQ5
set_option linter.unusedVariables false
namespace Go.Proofs.YtcpgpiabeimefaaDoor
open Go.RowKit
def ycx (l : List UInt8) : List AV := l.map fun b => .v (.int .u8 b.toNat)
theorem bytesA_app (a b : List UInt8) : ycx (a ++ b) = ycx a ++ ycx b := by simp [ycx]
theorem bytesA_len (l : List UInt8) : (ycx l).length = l.length := by simp [ycx]
theorem bytesA_pure (l : List UInt8) : ∀ c ∈ ycx l, ybn c = true := by
  intro c hc; obtain ⟨b, _, rfl⟩ := List.mem_map.1 hc; rfl
theorem bytesA_cell (l : List UInt8) : ∀ c ∈ ycx l, ydg c = true := by
  intro c hc; obtain ⟨b, _, rfl⟩ := List.mem_map.1 hc; rfl
theorem bytesA_rel {ok : Nat → Prop} {w : World} {lv : Live} (l : List UInt8) : ybp ok w lv (ycx l) (l.map fun b => Value.int .u8 b.toNat) := by
  refine ⟨by simp [ycx], fun i x u hx hu => ?_⟩
  simp only [ycx, List.getElem?_map, Option.map_eq_some_iff] at hx hu
  obtain ⟨a, ha, rfl⟩ := hx
  obtain ⟨b, hb, rfl⟩ := hu
  rw [ha] at hb; cases hb
  exact .v _
theorem shape_alloc {w : World} {c : Array Value} {e : TypeId} : (w.alloc (.cells c e)).shape? w.heap.size = some (e, c.size) := by
  have h : (w.alloc (.cells c e)).heap[w.heap.size]? = some (.cells c e) := by show (w.heap.push _)[w.heap.size]? = _; simp
  simp only [World.shape?, h]
theorem own_nil {B : Bse} {ok : Nat → Prop} {lv : Live} {w : World} {n : Nat} {e : TypeId} {xs : List AV} (h : OwnAt B ok lv w n (.tvec e xs) none) : xs = [] := by
  rcases h with h | ⟨e', h⟩
  · cases h
  · cases h; rfl
section
variable {P : Program} {T : Nat → Option Ty} {N : Nat} {ty : TypeId}
theorem appendS_world {B : Bse} {ok0 : Nat → Prop} {s : SS} {lv : Live} {a : Act} {w : World} (hs : Sim B ok0 N s lv a w) {ti tj e es eb : Nat} {ea : Bool} {ez : List Value} (hk : yef P ti (.slc e es ea eb ez)) (hes : es = 1) (hj0 : yef P tj .string) {id len m : Nat} {xs cs : List AV} {v : Value} {s0 : ByteArray} {news : List Value} (hmv : m = s0.size) (hcv : cs = ycx s0.data.toList) (hnv : news = Lib.strCells s0) (hid : s.h id = some (.tvec e xs)) (hxl : xs.length = len * es)
    (hv : Rel (ybh B ok0 lv w) w lv (.ls id es len) v) (hlim : len + m ≤ 4294967296 ∧ (len + m) * eb ≤ 140737488355328)
    {s' : SS} (ht : ∀ x y, s'.t x = some y → y = .any ∨ (s.t x = some y ∧ ment id y = false)) (hlt : ∀ x y, s'.t x = some y → ∃ z, s.t x = some z) (hh : ∀ j ob', j ≠ id → s'.h j = some ob' → yel id ob' = false ∧ ∃ ob, s.h j = some ob ∧ ForgO ob ob') (hid' : s'.h id = some (.tvec e (xs ++ cs))) :
    ∃ v' w' lv', (Builtin.append_ #[ti, tj] ty #[v, .string s0]).run P w = .ok v' w' ∧ Sim B ok0 N s' lv' a w' ∧ Rel (ybh B ok0 lv' w') w' lv' (.ls id es (len + m)) v' := by
  have hcc : ∀ c ∈ cs, ydg c = true := by rw [hcv]; exact bytesA_cell _
  have hcp : ∀ c ∈ cs, ybn c = true := by rw [hcv]; exact bytesA_pure _
  have hnl : news.length = m * es := by rw [hnv, Lib.strCells_length, hmv, hes, Nat.mul_one]
  have hnr : ybp (ybh B ok0 lv w) w (fun _ => none) cs news := by rw [hcv, hnv]; exact bytesA_rel _
  obtain ⟨hu, hsz, hby, hz, hzl, hpos⟩ := hk
  obtain ⟨i, hi, hisz, hiby, zv, hiz, hizc⟩ : ∃ i, P.info? e = some i ∧ i.size = es ∧ i.bytes = eb ∧ ∃ zv, i.zero = some zv ∧ zv.cells = ez.toArray := by
    cases hi : P.info? e with
    | none => simp [hi] at hby
    | some i =>
      have h1 := hsz.1
      unfold ZeroOK at hz
      simp only [hi, Option.map_some, Option.some.injEq] at hby h1 hz
      cases hzz : i.zero with
      | none => simp [hzz] at hz
      | some zv => simp only [hzz, Option.map_some, Option.some.injEq] at hz; exact ⟨i, rfl, h1, hby, zv, hzz, hz⟩
  have hcl : cs.length = m * es := by rw [← hnr.1, hnl]
  -- the state with the block written in place, or the same, forgets
  have forget : ∀ (w' : World) (lv1 : Live), Sim B ok0 N ⟨s.t, ydq s.h id (some (.tvec e (xs ++ cs)))⟩ lv1 a w' → ∃ lv', Sim B ok0 N s' lv' a w' ∧ lv' id = lv1 id := by
    intro w' lv1 h1
    obtain ⟨lv', g1, g2, g3, g4⟩ := h1.forg (s' := s') (fun x y hy => (ht x y hy).imp (fun h => h) And.left) hlt (fun j ob' hj => by
      by_cases hji : j = id
      · subst hji
        rw [hid'] at hj
        cases hj
        exact ⟨.tvec e (xs ++ cs), by simp [ydq], .inl rfl⟩
      · obtain ⟨_, ob, q1, q2⟩ := hh j ob' hji hj
        exact ⟨ob, by simp [ydq, hji, q1], q2⟩)
    exact ⟨lv', g1, g3 id (by simp [hid'])⟩
  obtain ⟨bo, n, hl, hown⟩ := hs.inv.obj id _ hid
  cases hv with
  | ls _ hone hls =>
    have hlsv := hls bo n hl
    have grown : ∀ (old : Nat) (olds : List Value), ybp (ybh B ok0 lv w) w lv xs olds → old < len + m →
        let cap := grownCap w (len + m) old e
        let w' := w.drew.alloc (.cells (olds.toArray ++ news.toArray ++ Builtin.zeroCells zv.cells (cap - (len + m))) e)
        ∃ lv', Sim B ok0 N s' lv' a w' ∧ Rel (ybh B ok0 lv' w') w' lv' (.ls id es (len + m)) (.slice (some ⟨w.heap.size, 0, none⟩) (len + m) cap) := by
      intro old olds hor hold
      have hge := grownCap_ge w (len + m) old e
      have hmx : grownCap w (len + m) old e ≤ maxLen := grownCap_le_maxLen w (len + m) old e (by unfold maxLen; omega)
      intro cap w'
      -- first forget, id given up
      obtain ⟨lv0, q1, q2, q3, q4⟩ := hs.forg (s' := ⟨s'.t, fun j => if j = id then none else s'.h j⟩) (fun x y hy => (ht x y hy).imp (fun h => h) And.left) hlt (fun j ob' hj => by
        simp only at hj
        split at hj
        · cases hj
        · rename_i hji; exact (hh j ob' hji hj).2)
      have q0 : Sim B ok0 N ⟨s'.t, fun j => if j = id then none else s'.h j⟩ lv0 a w.drew := q1.drew (Below.drew (Below.refl _ _))
      have hall : ybp (ybh B ok0 lv0 w.drew) w.drew lv0 (xs ++ cs) (olds ++ news) := by
        refine ⟨by simp [hor.1, hnr.1], fun j x u hx hu => ?_⟩
        have hpu := (show yeg (ybh B ok0 lv w) lv w (bo.getD 0) n (.tvec e xs) ∨ xs = [] by
          cases bo with
          | none => exact .inr (own_nil hown)
          | some b => exact .inl hown.2.2)
        have hpx : ∀ x ∈ xs, ybn x = true := by
          rcases hpu with h | h
          · exact h.2.1
          · intro x hx; rw [h] at hx; cases hx
        rcases Nat.lt_or_ge j xs.length with h1 | h1
        · rw [List.getElem?_append_left h1] at hx
          rw [List.getElem?_append_left (by rw [hor.1]; exact h1)] at hu
          exact ((hor.2 j x u hx hu).relive fun id b n hb hmm => by rw [ybn.ment (hpx x (List.mem_of_getElem? hx))] at hmm; cases hmm).keep fun g hg => ⟨q4 g hg, rfl⟩
        · rw [List.getElem?_append_right h1] at hx
          rw [List.getElem?_append_right (by rw [hor.1]; exact h1), hor.1] at hu
          exact ((hnr.2 _ x u hx hu).relive fun id b n hb hmm => by rw [ybn.ment (hcp x (List.mem_of_getElem? hx))] at hmm; cases hmm).keep fun g hg => ⟨q4 g hg, rfl⟩
      have hcell' : ∀ x ∈ xs ++ cs, ydg x = true := by
        intro x hx
        rcases List.mem_append.1 hx with hx | hx
        · cases bo with
          | none => rw [own_nil hown] at hx; cases hx
          | some b => obtain ⟨_, _, ⟨c, _, _, _, _, g4, _⟩, _⟩ := hown; exact g4 x hx
        · exact hcc x hx
      have hpure' : ∀ x ∈ xs ++ cs, ybn x = true := by
        intro x hx
        rcases List.mem_append.1 hx with hx | hx
        · cases bo with
          | none => rw [own_nil hown] at hx; cases hx
          | some b => exact hown.2.2.2.1 x hx
        · exact hcp x hx
      have hfr : Fresh (⟨s'.t, fun j => if j = id then none else s'.h j⟩ : SS) id := by
        refine ⟨by simp, fun x y hy => ?_, fun j ob hj => ?_⟩
        · rcases ht x y hy with rfl | ⟨_, hm⟩
          · rfl
          · exact hm
        · simp only at hj
          split at hj
          · cases hj
          · rename_i hji; exact (hh j ob hji hj).1
      have hzc : (olds ++ news).length + (Builtin.zeroCells zv.cells (cap - (len + m))).toList.length = cap * es := by
        have e1 := size_zeroCells zv.cells (cap - (len + m))
        rw [hizc] at e1
        simp only [List.size_toArray, hzl] at e1
        rw [hizc]
        simp only [Array.length_toList, List.length_append, e1, hor.1, hxl, hnl]
        rw [← Nat.add_mul, ← Nat.add_mul]
        congr 1
        omega
      have hw' : w' = w.drew.alloc (.cells ((olds ++ news) ++ (Builtin.zeroCells zv.cells (cap - (len + m))).toList).toArray e) := by
        simp only [w']
        congr 2
        simp
      have hnew := q0.newBlock (ob := .tvec e (xs ++ cs)) (n := cap * es) hfr (w' := w') (by rw [hw']; exact ydl w.drew _) (by rw [hw']; simp) rfl (fun h => by cases h)
        (fun ok' lv' g1 g2 => ⟨blk_new (e := e) hzc.symm (by rw [hw']; exact heap_alloc_eq w.drew _) hall hcell' ok' lv' g1 (fun i b mm hb hmm => by
          obtain ⟨c, hc, hcm⟩ : ∃ c ∈ xs ++ cs, ment i c = true := by
            generalize xs ++ cs = l at hmm
            induction l with
            | nil => simp [ment.mentL] at hmm
            | cons a l ih =>
              simp only [ment.mentL, Bool.or_eq_true] at hmm
              rcases hmm with h | h
              · exact ⟨a, by simp, h⟩
              · obtain ⟨c, h1, h2⟩ := ih h; exact ⟨c, by simp [h1], h2⟩
          rw [ybn.ment (hpure' c hc)] at hcm; cases hcm), hpure', by rw [hw', shape_alloc]; congr 2; simp only [List.size_toArray, List.length_append] at hzc ⊢; omega⟩)
      have hs'' : (⟨s'.t, ydq (fun j => if j = id then none else s'.h j) id (some (.tvec e (xs ++ cs)))⟩ : SS) = s' := by
        have : ydq (fun j => if j = id then none else s'.h j) id (some (.tvec e (xs ++ cs))) = s'.h := by
          funext j
          by_cases hj : j = id
          · subst hj; simp [ydq, hid']
          · simp [ydq, hj]
        rw [this]
      rw [hs''] at hnew
      refine ⟨_, hnew, .ls _ rfl fun b n' hb => ?_⟩
      simp only [setLv, if_true, Option.some.injEq, Prod.mk.injEq] at hb
      obtain ⟨rfl, rfl⟩ := hb
      exact ⟨cap, rfl, hge, hmx, rfl⟩
    cases bo with
    | none =>
      obtain rfl := own_nil hown
      obtain ⟨rfl, rfl⟩ := hlsv
      by_cases hm : s0.size = 0
      · have hf := Lib.run_firstCells_string (P := P) w 1 s0
        rw [hm] at hf
        have hcs : cs = [] := List.eq_nil_of_length_eq_zero (by rw [hcl, hmv, hm]; simp)
        have hsame : (⟨s.t, ydq s.h id (some (.tvec e ([] ++ cs)))⟩ : SS) = s := by
          have : ydq s.h id (some (.tvec e ([] ++ cs))) = s.h := by
            funext j
            by_cases hj : j = id
            · subst hj; simp [ydq, hid, hcs]
            · simp [ydq, hj]
          rw [this]
        obtain ⟨lv', q1, q2⟩ := forget w lv (by rw [hsame]; exact hs)
        refine ⟨.slice none 0 0, w, lv', ?_, q1, .ls _ rfl fun b n' hb => ?_⟩
        · simp [Builtin.append_, run_underlying hu, run_underlying hj0, sizeOf, typeInfo, hi, hisz, hes, Builtin.lenOf, hm, hf]
        · rw [q2, hl] at hb; cases hb; exact ⟨rfl, by omega⟩
      · have hr := run_append_nil_string (P := P) w ti tj ty e i zv hu hj0 hi hiz s0 (by omega) (by omega) (by have := hlim.2; rw [hiby]; simp only [Nat.zero_add] at this; rw [← hmv]; omega)
        obtain ⟨lv', g1, g2⟩ := grown 0 [] ⟨rfl, fun i x u h => by simp at h⟩ (by omega)
        have e1 : (s0.data.map fun b => Value.int .u8 b.toNat) = news.toArray := by
          rw [hnv]
          apply Array.ext'
          simp [Lib.strCells]
        rw [e1] at hr
        subst hmv
        simp only [Nat.zero_add, Array.empty_append] at hr g1 g2 ⊢
        exact ⟨_, _, lv', hr, g1, g2⟩
    | some b =>
      obtain ⟨cap, rfl, hlc, hmx, hcn⟩ := hlsv
      obtain ⟨hb1, hb2, ⟨cu, e', g1, g2, g3, g4, g5⟩, hpu, hsh⟩ := hown
      obtain rfl : e' = e := by simp only [World.shape?, g1, Option.some.injEq, Prod.mk.injEq] at hsh; exact hsh.1
      subst hes
      by_cases hroom : len + m ≤ cap
      · have hfit : len * 1 + news.length ≤ cu.size := by rw [hnl, g2, ← hcn, ← Nat.add_mul]; exact Nat.mul_le_mul_right _ hroom
        have hr := Lib.run_append_room_string (P := P) w ti tj ty e' i hu hj0 hi hisz b len cap cu g1 s0 (by rw [← hmv]; exact hroom) (by rw [hnl] at hfit; omega)
        have hwe : (cu.toList.take len ++ Lib.strCells s0 ++ cu.toList.drop (len + s0.size)).toArray = (cu.toList.take (len * 1) ++ news ++ cu.toList.drop (len * 1 + news.length)).toArray := by
          rw [hnl, Nat.mul_one, Nat.mul_one, ← hnv, ← hmv]
        rw [hwe, ← hmv] at hr
        have hwr := hs.write (w' := w.setRow b (cu.toList.take (len * 1) ++ news ++ cu.toList.drop (len * 1 + news.length)).toArray) hl rfl rfl rfl (by simp) (fun g hg => setRow_other w b g _ hg) (ob := .tvec e' (xs ++ cs)) (fun h => by cases h)
          (fun ok' hk => ⟨blk_app (w := w) g2 hxl g4 g5 hnr hcc hcp (by omega) (setRow_heap w b cu _ e' _ g1) ok' hk, fun x hx => by
            rcases List.mem_append.1 hx with hx | hx
            · exact hpu x hx
            · exact hcp x hx, by
            simp only [World.shape?, setRow_heap w b cu _ e' _ g1]
            congr 2
            rw [← g2]
            simp; omega⟩)
        obtain ⟨lv', q1, q2⟩ := forget _ _ hwr
        refine ⟨_, _, lv', hr, q1, .ls _ rfl fun b' n' hb => ?_⟩
        rw [q2, hl] at hb; cases hb; exact ⟨cap, rfl, hroom, hmx, hcn⟩
      · have hxle : xs.length ≤ cu.size := by omega
        have hor : ybp (ybh B ok0 lv w) w lv xs (cu.toList.take xs.length) := ⟨by simp; omega, fun j x u hx hu => by
          have hlt := (List.getElem?_eq_some_iff.1 hx).1
          rw [List.getElem?_take, if_pos hlt] at hu
          exact g5 j x u hx (by simpa using hu)⟩
        have hr := Lib.run_append_grow_string (P := P) w ti tj ty e' i zv hu hj0 hi hiz ⟨b, 0, none⟩ len cap (cu.toList.take xs.length) (by simp [hisz]; omega) (fun j v hj => by
          rw [List.getElem?_take] at hj
          split at hj
          · rw [addr_add]; simp only [World.cell?, g1, Nat.zero_add]; simpa using hj
          · cases hj) s0 (by omega) (by omega) (by rw [hiby, ← hmv]; exact growslice_fits (by omega) hlim.2)
        obtain ⟨lv', q1, q2⟩ := grown cap _ hor (by omega)
        subst hmv hnv
        exact ⟨_, _, lv', hr, q1, q2⟩
end
end Go.Proofs.YtcpgpiabeimefaaDoor
set_option linter.unusedVariables false
namespace Go.Proofs.YtcpgpiabeimefaaDoor
open Go.RowKit
section
variable {P : Program} {T : Nat → Option Ty} {N : Nat} {ops : Array Oper} {lf : Oper → Bool} {Q : SS → Prop} {t : List (Nat × AV)} {h : List (Nat × Option LObj)} {rest : List Oper} {d : Nat} {op : Op} {ty : TypeId} {pos : String} {af : Array Edge} {gd : Option (Nat × Bool)} {r : AV}
theorem Sim.ownHT {B : Bse} {ok0 : Nat → Prop} {s : SS} {lv : Live} {a : Act} {w : World} (hs : Sim B ok0 N s lv a w) {id : Nat} (e0 : TypeId) (hf : Fresh s id) :
    ∃ lv', Sim B ok0 N ⟨s.t, ydq s.h id (some (.tvec e0 []))⟩ lv' a w ∧ ∀ size, Rel (ybh B ok0 lv' w) w lv' (.ls id size 0) (.slice none 0 0) := by
  have hid : lv id = none := hs.inv.dom id hf.1
  have hsame : ∀ j b n, (fun j => if j = id then some (none, 0) else lv j : Live) j = some (some b, n) → lv j = some (some b, n) := by
    intro j b n hj
    simp only at hj
    split at hj
    · cases hj
    · exact hj
  have hok : ∀ g, ybh B ok0 lv w g → ybh B ok0 (fun j => if j = id then some (none, 0) else lv j) w g := fun g hg => ⟨hg.1, hg.2.1, fun j b n hj => hg.2.2 j b n (hsame j b n hj)⟩
  have hre : ∀ (x : AV) (u : Value), ment id x = false → Rel (ybh B ok0 lv w) w lv x u → Rel (ybh B ok0 (fun j => if j = id then some (none, 0) else lv j) w) w (fun j => if j = id then some (none, 0) else lv j) x u := fun x u hm hr =>
    (hr.relive fun j b n hj hmj => by
      split at hj
      · rename_i e; subst e; rw [hm] at hmj; cases hmj
      · exact hj).keep fun g hg => ⟨hok g hg, rfl⟩
  refine ⟨fun j => if j = id then some (none, 0) else lv j, ⟨⟨hs.inv.base, hs.inv.ok0lt, fun j hj => ?_, fun i j b n m h1 h2 => hs.inv.inj i j b n m (hsame _ _ _ h1) (hsame _ _ _ h2), fun j x hx => ?_⟩, hs.size, fun x y hy => ?_, hs.defers, hs.big, fun j b o hN hj hc hb => ?_⟩, fun size => ?_⟩
  · by_cases h : j = id
    · subst h; simp [ydq] at hj
    · simp only [ydq, h, if_false] at hj ⊢; exact hs.inv.dom j hj
  · by_cases h : j = id
    · subst h
      simp only [ydq, if_true, Option.some.injEq] at hx
      subst hx
      exact ⟨none, 0, by simp, .inr ⟨e0, rfl⟩⟩
    · simp only [ydq, h, if_false] at hx
      obtain ⟨b, n, h1, h2⟩ := hs.inv.obj j x hx
      refine ⟨b, n, by simp [h, h1], ?_⟩
      cases b with
      | none => exact h2
      | some b =>
        refine ⟨h2.1, h2.2.1, (h2.2.2.relive fun i b n hi hmi => ?_).keep (fun g hg => ⟨hok g hg, rfl⟩) rfl⟩
        split at hi
        · rename_i e; subst e; rw [hf.2.2 j x hx] at hmi; cases hmi
        · exact hi
  · have := hs.frame x y hy
    exact ⟨this.1, hre y _ (hf.2.1 x y hy) this.2⟩
  · by_cases h : j = id
    · subst h; simp only [ydq, if_true, Option.some.injEq] at hj; subst hj; cases hc
    · simp only [ydq, h, if_false] at hj ⊢
      exact hs.pin j b o hN hj hc hb
  · refine .ls _ rfl fun b n hb => ?_
    simp only [if_true, Option.some.injEq, Prod.mk.injEq] at hb
    obtain ⟨rfl, rfl⟩ := hb
    exact ⟨rfl, rfl⟩
theorem A_ownCT {c : Code} {Q : Exit → SS → Prop} (jb k id size : Nat) (e0 : TypeId) {te : TypeId} {ys : List AV} (hj : yal h jb = some (.tcells te ys)) (hk : ys[k]? = some (.v (.slice none 0 0))) (h1 : yee id t = true) (h2 : ydr id h = true) (hne : Nat.beq jb id = false)
    (kk : A P N c Q (S t ((jb, some (.tcells te (ys.set k (.ls id size 0)))) :: (id, some (.tvec e0 [])) :: h))) : A P N c Q (S t h) := by
  intro B ok0 lv a w hs
  obtain ⟨lv', hs1, hnil⟩ := hs.ownHT e0 (fresh_of (t := t) (h := h) h1 h2)
  have hnj : jb ≠ id := fun e => by subst e; simp at hne
  have hj1 : ydq (yal h) id (some (.tvec e0 [])) jb = some (.tcells te ys) := by simp only [ydq, hnj, if_false]; exact hj
  refine kk B ok0 lv' a w ?_
  rw [← S_h]
  obtain ⟨bo, n, k1, k2⟩ := hs1.inv.obj jb _ hj1
  cases bo with
  | none => simp [OwnAt] at k2
  | some b =>
    obtain ⟨q1, q2, ⟨cc, e, q3, q4, q5, q6, q7⟩, hsh⟩ := k2
    have hkl := (List.getElem?_eq_some_iff.1 hk).1
    have hkc : k < cc.size := by omega
    have hold := rel_v (q7 k _ cc[k] hk (by simp [hkc]))
    have hnew := hnil size
    rw [← hold] at hnew
    have hS : yal ((id, some (.tvec e0 [])) :: h) = ydq (yal h) id (some (.tvec e0 [])) := (hlook_cons id _ h).symm
    refine ⟨⟨hs1.inv.base, hs1.inv.ok0lt, fun j hjn => ?_, hs1.inv.inj, fun j x hxj => ?_⟩, hs1.size, hs1.frame, hs1.defers, hs1.big, fun j b' o hN hjx hc hb' => ?_⟩
    · by_cases hjj : j = jb
      · subst hjj; simp [ydq] at hjn
      · simp only [ydq, hjj, if_false, hS] at hjn; exact hs1.inv.dom j hjn
    · by_cases hjj : j = jb
      · subst hjj
        simp only [ydq, if_true, Option.some.injEq] at hxj
        subst hxj
        refine ⟨some b, n, k1, q1, q2, ⟨cc, e, q3, q4, by simpa using q5, fun x hxm => ?_, fun i x u hi hu => ?_⟩, by simpa using hsh⟩
        · rcases List.mem_or_eq_of_mem_set hxm with hm | hm
          · exact q6 x hm
          · subst hm; rfl
        · rw [List.getElem?_set] at hi
          split at hi
          · rename_i e1
            subst e1
            cases hi
            simp only [hkc, Array.getElem?_eq_getElem, Option.some.injEq] at hu
            subst hu
            exact hnew
          · exact q7 i x u hi hu
      · simp only [ydq, hjj, if_false, hS] at hxj
        exact hs1.inv.obj j x hxj
    · by_cases hjj : j = jb
      · subst hjj
        exact hs1.pin j b' _ hN hj1 rfl hb'
      · simp only [ydq, hjj, if_false, hS] at hjx
        exact hs1.pin j b' o hN hjx hc hb'
theorem appendS_loud (hT : TOK P T) {o : Oper} {ti tj e es eb sz s2 : Nat} {ea ag a2 : Bool} {ez z z2 : List Value} {x y : Operand} {id len : Nat} {xs : List AV} {s0 : ByteArray} {s s' : SS} (ho : o.op = .call { callee := .builtin .append, args := #[x, y], argTypes := #[ti, tj] }) (hd : o.dst = some d) (hdN : d < N) (hk : T ti = some ⟨.slc e es ea eb ez, sz, ag, z⟩) (hk2 : T tj = some ⟨.string, s2, a2, z2⟩) (hes : es = 1)
    (hx : evF s.t x = some (.ls id es len)) (hid : s.h id = some (.tvec e xs)) (hxl : xs.length = len * es) (hy : evF s.t y = some (.v (.string s0))) (hlim : len + s0.size ≤ 4294967296 ∧ (len + s0.size) * eb ≤ 140737488355328)
    (ht : ∀ x y, s'.t x = some y → y = .any ∨ (s.t x = some y ∧ ment id y = false)) (hlt : ∀ x y, s'.t x = some y → ∃ z, s.t x = some z) (hh : ∀ j ob', j ≠ id → s'.h j = some ob' → yel id ob' = false ∧ ∃ ob, s.h j = some ob ∧ ForgO ob ob') (hid' : s'.h id = some (.tvec e (xs ++ ycx s0.data.toList))) :
    LoudAt P N o s (· = ⟨updF s'.t (some d) (.ls id es (len + s0.size)), s'.h⟩) := by
  intro B ok0 lv a w hs Q
  have hyv := rel_v (hs.eval hy)
  obtain ⟨v', w', lv', hrun0, hs', hrel⟩ := appendS_world (ty := o.type) hs (hT _ _ hk).2.2 hes (hT _ _ hk2).2.2 rfl rfl rfl hid hxl (hs.eval hx) hlim ht hlt hh hid'
  have hrun : (execOp a.eval o).run P w = .ok (.value v') w' := by
    simp only [execOp, ho, resolve, invoke, builtin, Sem.run_bind, Sem.run_pure, Result.andThen_ok, List.map_toArray, List.map_cons, List.map_nil, hyv, hrun0]
  unfold Oper.wp
  rw [hrun]
  simp only [Oper.upon, hd]
  exact ⟨_, lv', rfl, hs'.putOnly hdN hrel⟩
theorem L_appendS (hT : TOK P T) {ti tj e es eb sz s2 : Nat} {ea ag a2 : Bool} {ez z z2 : List Value} {x y : Operand} {id len : Nat} {xs : List AV} {s0 : ByteArray} {t' : List (Nat × AV)} {h' : List (Nat × Option LObj)} (hk : T ti = some ⟨.slc e es ea eb ez, sz, ag, z⟩) (hk2 : T tj = some ⟨.string, s2, a2, z2⟩) (hes : es = 1) (hx : evF (ybb t) x = some (.ls id es len)) (hid : yal h id = some (.tvec e xs)) (hxl : xs.length = len * es) (hy : evF (ybb t) y = some (.v (.string s0)))
    (hlim : len + s0.size ≤ 4294967296 ∧ (len + s0.size) * eb ≤ 140737488355328) (ht : forgT id t = some t') (hh : forgH id h = some h') (hl : lf ⟨some d, .call { callee := .builtin .append, args := #[x, y], argTypes := #[ti, tj] }, ty, pos, af, gd⟩ = true)
    (hw : yaz ops (ybb t) ⟨some d, .call { callee := .builtin .append, args := #[x, y], argTypes := #[ti, tj] }, ty, pos, af, gd⟩ = some true) (hd : Nat.blt d N = true) (k : Lex P N ops lf Q rest (S ((d, .ls id es (len + s0.size)) :: t') ((id, some (.tvec e (xs ++ ycx s0.data.toList))) :: h'))) :
    Lex P N ops lf Q (⟨some d, .call { callee := .builtin .append, args := #[x, y], argTypes := #[ti, tj] }, ty, pos, af, gd⟩ :: rest) (S t h) := by
  obtain ⟨g1, g2⟩ := forgT_spec ht
  have e : S ((d, .ls id es (len + s0.size)) :: t') ((id, some (.tvec e (xs ++ ycx s0.data.toList))) :: h') = (⟨updF (S t' ((id, some (.tvec e (xs ++ ycx s0.data.toList))) :: h')).t (some d) (.ls id es (len + s0.size)), (S t' ((id, some (.tvec e (xs ++ ycx s0.data.toList))) :: h')).h⟩ : SS) := by
    unfold S; rw [yfg]
  refine L_loud hl hw ?_ k
  rw [e]
  refine appendS_loud hT rfl rfl (by simpa using hd) hk hk2 hes hx hid hxl hy hlim g1 g2 (fun j ob' hj hob => ?_) ?_
  · simp only [S, yal, yeb hj] at hob
    exact forgH_spec hh j ob' hob
  · simp [S, yal]
theorem allocT_loud (hT : TOK P T) {o : Oper} {elem : TypeId} {y : Ty} {s : SS} (ho : o.op = .alloc elem) (hd : o.dst = some d) (hdN : d < N) (id : Nat) (hy : T elem = some y) (hone : y.zero.all Value.oneCell' = true) (hf : Fresh s id) (hidN : id < N) :
    LoudAt P N o s (· = ⟨updF s.t (some d) (.lp id 0), ydq s.h id (some (.tcells elem (y.zero.map .v)))⟩) := by
  intro B ok0 lv a w hs Q
  obtain ⟨z, h1, h2⟩ := (hT _ _ hy).2.1.run (w := w)
  have hrun : (execOp a.eval o).run P w = .ok (.value (.pointer (some ⟨w.heap.size, 0, none⟩))) (w.alloc (.cells y.zero.toArray elem)) := by
    simp [execOp, ho, Instr.alloc, newVar, newRow, h1, h2]
  unfold Oper.wp
  rw [hrun]
  have hm : ment.mentL id (y.zero.map .v) = false := by
    induction y.zero with
    | nil => rfl
    | cons a l ih => simp [ment.mentL, ment, ih]
  have hra : ybp (ybh B ok0 lv w) w lv (y.zero.map .v) y.zero := ⟨by simp, fun i x u hx hu => by rw [List.getElem?_map, hu] at hx; simp at hx; subst hx; exact .v u⟩
  have hnew := hs.newBlock (ob := .tcells elem (y.zero.map .v)) (n := y.zero.length) hf (ydl w (.cells y.zero.toArray elem)) (by simp) (by simpa [yel] using hm) (fun _ => hidN)
    (fun ok' lv' g1 g2 => ⟨blk_new (extra := []) (e := elem) (by simp) (by rw [heap_alloc_eq]; simp) hra (fun c hc => by
      obtain ⟨v, hv, rfl⟩ := List.mem_map.1 hc
      exact List.all_eq_true.1 hone v hv) ok' lv' g1 g2, by rw [shape_alloc]; simp⟩)
  simp only [Oper.upon, hd]
  exact ⟨_, _, rfl, hnew.putOnly hdN (.lp _ rfl fun b n hb => by simp only [setLv, if_true, Option.some.injEq, Prod.mk.injEq] at hb; rw [hb.1])⟩
theorem L_allocT (hT : TOK P T) {elem : TypeId} {y : Ty} (hy : T elem = some y) (hone : y.zero.all Value.oneCell' = true) (h1 : yee d t = true) (h2 : ydr d h = true) (hl : lf ⟨some d, .alloc elem, ty, pos, af, gd⟩ = true) (hw : yaz ops (ybb t) ⟨some d, .alloc elem, ty, pos, af, gd⟩ = some true) (hd : Nat.blt d N = true)
    (k : Lex P N ops lf Q rest (S ((d, .lp d 0) :: t) ((d, some (.tcells elem (vMap y.zero))) :: h))) : Lex P N ops lf Q (⟨some d, .alloc elem, ty, pos, af, gd⟩ :: rest) (S t h) :=
  L_loud hl hw (by rw [← S_upd, vMap_eq]; exact allocT_loud hT rfl rfl (by simpa using hd) d hy hone (fresh_of h1 h2) (by simpa using hd)) k
theorem L_storeT (hT : TOK P T) {ti : Nat} {y : Ty} {x v : Operand} {id off : Nat} {te : TypeId} {xs cs ys : List AV} {u : AV} (hy : T ti = some y) (hx : evF (ybb t) x = some (.lp id off)) (hv : evF (ybb t) v = some u) (hcs : yec u = some cs) (hcl : Nat.beq cs.length y.size = true) (hh : yal h id = some (.tcells te xs)) (hne : xs ≠ []) (hsp : yfn off cs xs = some ys)
    (hl : lf ⟨none, .store ti x v, ty, pos, af, gd⟩ = true) (hw : yaz ops (ybb t) ⟨none, .store ti x v, ty, pos, af, gd⟩ = some true) (k : Lex P N ops lf Q rest (S t ((id, some (.tcells te ys)) :: h))) : Lex P N ops lf Q (⟨none, .store ti x v, ty, pos, af, gd⟩ :: rest) (S t h) := by
  obtain ⟨h1, h2⟩ := spliceN_eq hsp
  refine L_loud hl hw (by rw [← S_h]; exact store_loud rfl rfl (hT _ _ hy).1 hx hv hcs (by simpa using hcl) hh (by rw [h2]; exact .tcells h1 hne)) k
theorem yield_nilCheck {ρ : Operand → Option AV} {hp : Nat → Option LObj} {x : Operand} {id off : Nat} {xs : List AV} (hx : ρ x = some (.lp id off)) (hh : cellsL (hp id) = some xs) : ycs P hp ρ (.nilCheck x) ty (.lp id off) :=
  yar fun B ok0 lv w a o ho hty hi' hops => by
    have hr := hops x _ (by simp [Op.operands]) hx
    obtain ⟨g1, g2⟩ := ydb hh
    obtain ⟨b, n, hb, hu, _⟩ := yck hi' g1 g2 hr
    exact ⟨a.eval x, by simp [execOp, ho, hu], hr⟩
theorem yak {x : Operand} {id off : Nat} {xs : List AV} (hx : evF (ybb t) x = some (.lp id off)) (hh : cellsL (yal h id) = some xs) (hw : yaz ops (ybb t) ⟨some d, .nilCheck x, ty, pos, af, gd⟩ = some true) (hd : Nat.blt d N = true) (k : Lex P N ops lf Q rest (S ((d, .lp id off) :: t) h)) : Lex P N ops lf Q (⟨some d, .nilCheck x, ty, pos, af, gd⟩ :: rest) (S t h) :=
  ych (yield_nilCheck hx hh) hw hd k
theorem yield_sliceData {ρ : Operand → Option AV} {hp : Nat → Option LObj} {x : Operand} {ts : Array TypeId} {id len : Nat} {te : TypeId} {y : AV} {xs : List AV} (hx : ρ x = some (.ls id 1 len)) (hh : hp id = some (.tvec te (y :: xs))) (hlen : len ≠ 0) : ycs P hp ρ (.call { callee := .builtin .unsafeSliceData, args := #[x], argTypes := ts }) ty (.lp id 0) :=
  yar fun B ok0 lv w a o ho hty hi' hops => by
    have hr := hops x _ (by simp [Op.operands, Call.operands]) hx
    obtain ⟨b, n, hb, hown⟩ := hi'.obj id _ hh
    cases b with
    | none => exact absurd (own_nil hown) (by simp)
    | some b =>
      generalize hv : a.eval x = v at hr
      cases hr with
      | ls _ h1 h2 =>
        obtain ⟨cap, rfl, hle, hmx, hcn⟩ := h2 (some b) n hb
        refine ⟨.pointer (some ⟨b, 0, none⟩), ?_, .lp _ rfl fun b' n' hb' => by rw [hb] at hb'; cases hb'; rfl⟩
        simp [execOp, ho, resolve, invoke, builtin, hv, Lib.run_unsafeSliceData_row (P := P) w ts o.type ⟨b, 0, none⟩ len cap (by omega)]
theorem L_sliceData {x : Operand} {ts : Array TypeId} {id len : Nat} {te : TypeId} {y : AV} {xs : List AV} (hx : evF (ybb t) x = some (.ls id 1 len)) (hh : yal h id = some (.tvec te (y :: xs))) (hlen : len ≠ 0) (hw : yaz ops (ybb t) ⟨some d, .call { callee := .builtin .unsafeSliceData, args := #[x], argTypes := ts }, ty, pos, af, gd⟩ = some true) (hd : Nat.blt d N = true) (k : Lex P N ops lf Q rest (S ((d, .lp id 0) :: t) h)) : Lex P N ops lf Q (⟨some d, .call { callee := .builtin .unsafeSliceData, args := #[x], argTypes := ts }, ty, pos, af, gd⟩ :: rest) (S t h) :=
  ych (yield_sliceData hx hh hlen) hw hd k

theorem Sim.dropWrite {B : Bse} {ok0 : Nat → Prop} {s : SS} {lv : Live} {a : Act} {w w' : World} (hs : Sim B ok0 N s lv a w) {id b n : Nat} (hl : lv id = some (some b, n)) (hos : w'.os = w.os) (htp : w'.tape = w.tape) (hout : w'.output = w.output) (hsz : w'.heap.size = w.heap.size)
    (hoth : ∀ g, g ≠ b → w'.heap[g]? = w.heap[g]?) : ∃ lv', Sim B ok0 N ⟨s.t, ydq s.h id none⟩ lv' a w' := by
  obtain ⟨x0, hx0, hb1, hb2, hb3⟩ := hs.inv.lvat hl
  have hsub : ∀ j b n, (fun j => if j = id then none else lv j : Live) j = some (b, n) → lv j = some (b, n) := by
    intro j b n hj
    simp only at hj
    split at hj
    · cases hj
    · exact hj
  have hok : ∀ g, ybh B ok0 lv w g → ybh B ok0 (fun j => if j = id then none else lv j) w' g ∧ w'.heap[g]? = w.heap[g]? := fun g hg => ⟨⟨hg.1, by rw [hsz]; exact hg.2.1, fun j b' n' hj => hg.2.2 j b' n' (hsub j _ n' hj)⟩, hoth g (hg.2.2 id b n hl).symm⟩
  refine ⟨fun j => if j = id then none else lv j, ⟨?_, hs.inv.ok0lt, fun j hj => ?_, fun i j b n m h1 h2 => hs.inv.inj i j b n m (hsub _ _ _ h1) (hsub _ _ _ h2), fun j x hx => ?_⟩, hs.size, fun x y hy => ⟨(hs.frame x y hy).1, ((hs.frame x y hy).2.relive fun j b n hb _ => hsub j b n hb).keep hok⟩, hs.defers.same (fun g hg => (hoth g fun e => by subst e; exact (hs.inv.lvat hl).choose_spec.2.2.2.notDef hg).trans hg), hs.big, fun j b' o hN hj hc hb' => ?_⟩
  · exact hs.inv.base.written hb1 hos htp hout hsz hoth
  · by_cases h : j = id
    · simp [h]
    · simp only [ydq, h, if_false] at hj ⊢; exact hs.inv.dom j hj
  · by_cases h : j = id
    · subst h; simp [ydq] at hx
    · simp only [ydq, h, if_false] at hx
      obtain ⟨b', m, h1, h2⟩ := hs.inv.obj j x hx
      refine ⟨b', m, by simp [h, h1], ?_⟩
      cases b' with
      | none => exact h2
      | some b' =>
        obtain ⟨h2, h3, h4⟩ := h2
        refine ⟨h2, by rw [hsz]; exact h3, (h4.relive fun k b n hb _ => hsub k b n hb).keep hok (hoth b' ?_)⟩
        intro he
        subst he
        exact h (hs.inv.inj j id b' m n h1 hl)
  · by_cases h : j = id
    · subst h; simp [ydq] at hj
    · simp only [ydq, h, if_false] at hj ⊢
      exact hs.pin j b' o hN hj hc hb'
theorem freeze_other (w : World) (b n g : Nat) (hg : g ≠ b) : (w.freeze ⟨b, 0, none⟩ n).heap[g]? = w.heap[g]? := by
  unfold World.freeze
  split
  · rfl
  · simp [Array.getElem?_modify, Ne.symm hg]
theorem freeze_same (w : World) (a : Addr) (n : Nat) : (w.freeze a n).os = w.os ∧ (w.freeze a n).tape = w.tape ∧ (w.freeze a n).output = w.output ∧ (w.freeze a n).heap.size = w.heap.size := by
  unfold World.freeze
  split
  · exact ⟨rfl, rfl, rfl, rfl⟩
  · exact ⟨rfl, rfl, rfl, by simp⟩
theorem unsafeString_loud {o : Oper} {x y : Operand} {pt it te : TypeId} {id : Nat} {l : List UInt8} {s : SS} (ho : o.op = .call { callee := .builtin .unsafeString, args := #[x, y], argTypes := #[pt, it] }) (hd : o.dst = some d) (hdN : d < N) (hp : P.underlying pt = some (.pointer te)) (hc : P.cellsOf te = 1)
    (hx : evF s.t x = some (.lp id 0)) (hid : s.h id = some (.tvec te (ycx l))) (hy : evF s.t y = some (.v (.int .i64 l.length))) (h0 : l ≠ []) (h63 : l.length ≤ 9223372036854775807) :
    LoudAt P N o s (· = ⟨updF s.t (some d) (.v (.string ⟨l.toArray⟩)), ydq s.h id none⟩) := by
  intro B ok0 lv a w hs Q
  have hyv := rel_v (hs.eval hy)
  have hne : ycx l ≠ [] := by intro e; exact h0 (by simpa [ycx] using e)
  obtain ⟨b, n, hb, hxv, hcells⟩ := yck hs.inv (xs := ycx l) (by rw [hid]; rfl) (.inl hne) (hs.eval hx)
  obtain ⟨b2, n2, hb2, hown⟩ := hs.inv.obj id _ hid
  rw [hb] at hb2
  cases hb2
  obtain ⟨_, _, ⟨c, e, g1, g2, g3, _, _⟩, _, hsh⟩ := hown
  have hrun0 := Lib.run_unsafeString_row (P := P) w pt it o.type te hp hc b n hsh l h0 (by rw [bytesA_len] at g3; exact g3) h63 (fun j x hjx => by
    obtain ⟨_, u, hu, hr⟩ := hcells j (.v (.int .u8 x.toNat)) (by simp [ycx, hjx])
    rw [addr_add]
    rw [rel_v hr] at hu
    exact hu)
  have hrun : (execOp a.eval o).run P w = .ok (.value (.string ⟨l.toArray⟩)) (w.freeze ⟨b, 0, none⟩ l.length) := by
    simp only [execOp, ho, resolve, invoke, builtin, Sem.run_bind, Sem.run_pure, Result.andThen_ok, List.map_toArray, List.map_cons, List.map_nil, hyv, hxv, hrun0]
  unfold Oper.wp
  rw [hrun]
  simp only [Oper.upon, hd]
  obtain ⟨f1, f2, f3, f4⟩ := freeze_same w ⟨b, 0, none⟩ l.length
  obtain ⟨lv', hs'⟩ := hs.dropWrite hb f1 f2 f3 f4 (fun g hg => freeze_other w b l.length g hg)
  exact ⟨_, lv', rfl, hs'.putOnly hdN (.v _)⟩
theorem L_unsafeString {x y : Operand} {pt it te : TypeId} {id : Nat} {l : List UInt8} (hp : P.underlying pt = some (.pointer te)) (hc : P.cellsOf te = 1) (hx : evF (ybb t) x = some (.lp id 0)) (hid : yal h id = some (.tvec te (ycx l))) (hy : evF (ybb t) y = some (.v (.int .i64 l.length))) (h0 : l ≠ []) (h63 : l.length ≤ 9223372036854775807)
    (hl : lf ⟨some d, .call { callee := .builtin .unsafeString, args := #[x, y], argTypes := #[pt, it] }, ty, pos, af, gd⟩ = true) (hw : yaz ops (ybb t) ⟨some d, .call { callee := .builtin .unsafeString, args := #[x, y], argTypes := #[pt, it] }, ty, pos, af, gd⟩ = some true) (hd : Nat.blt d N = true)
    (k : Lex P N ops lf Q rest (S ((d, .v (.string ⟨l.toArray⟩)) :: t) ((id, none) :: h))) : Lex P N ops lf Q (⟨some d, .call { callee := .builtin .unsafeString, args := #[x, y], argTypes := #[pt, it] }, ty, pos, af, gd⟩ :: rest) (S t h) :=
  L_loud hl hw (by rw [← S_upd]; exact unsafeString_loud rfl rfl (by simpa using hd) hp hc hx hid hy h0 h63) k

theorem yield_eqlNil {ρ : Operand → Option AV} {hp : Nat → Option LObj} {x y : Operand} {tp ty' : TypeId} (hu : P.underlying tp = some (.pointer (P.pointee tp))) (hx : ρ x = some (.v (.pointer none))) (hy : ρ y = some (.v (.pointer none))) : ycs P hp ρ (.binOp .eql tp x y ty') ty (.v (.bool true)) :=
  ydo (fun _ _ => by simp) (by simp [yfp, Op.operands, hx, hy, toV]) fun w => by
    have := run_eql_pointer_nil (P := P) w tp none hu
    simp [execOp, yfo hx, yfo hy, eqGuard, this]
theorem yield_eqlLp {ρ : Operand → Option AV} {hp : Nat → Option LObj} {x y : Operand} {tp ty' : TypeId} {id off : Nat} {xs : List AV} (hu : P.underlying tp = some (.pointer (P.pointee tp))) (hx : ρ x = some (.lp id off)) (hh : cellsL (hp id) = some xs) (hy : ρ y = some (.v (.pointer none))) : ycs P hp ρ (.binOp .eql tp x y ty') ty (.v (.bool false)) :=
  yar fun B ok0 lv w a o ho hty hi' hops => by
    obtain ⟨g1, g2⟩ := ydb hh
    obtain ⟨b, n, hb, hv, _⟩ := yck hi' g1 g2 (hops x _ (by simp [Op.operands]) hx)
    have hyv := rel_v (hops y _ (by simp [Op.operands]) hy)
    have := run_eql_pointer_nil (P := P) w tp (some ⟨b, off, none⟩) hu
    exact ⟨_, by simp [execOp, ho, hv, hyv, eqGuard, this], .v _⟩
theorem yield_neqLp {ρ : Operand → Option AV} {hp : Nat → Option LObj} {x y : Operand} {tp te ty' : TypeId} {id off : Nat} {xs : List AV} (hu : P.underlying tp = some (.pointer te)) (hi0 : (P.info? te).isSome = true) (hx : ρ x = some (.lp id off)) (hh : cellsL (hp id) = some xs) (hy : ρ y = some (.lp id off)) : ycs P hp ρ (.binOp .neq tp x y ty') ty (.v (.bool false)) :=
  yar fun B ok0 lv w a o ho hty hi' hops => by
    obtain ⟨g1, g2⟩ := ydb hh
    obtain ⟨b, n, hb, hv, _⟩ := yck hi' g1 g2 (hops x _ (by simp [Op.operands]) hx)
    obtain ⟨b', n', hb', hv', _⟩ := yck hi' g1 g2 (hops y _ (by simp [Op.operands]) hy)
    rw [hb] at hb'
    cases hb'
    obtain ⟨j, hj⟩ := Option.isSome_iff_exists.1 hi0
    have := Lib.run_neq_ptr_same (P := P) w ⟨b, off, none⟩ hu hj
    exact ⟨_, by simp [execOp, ho, hv, hv', eqGuard, this], .v _⟩
theorem yield_toUnsafe {ρ : Operand → Option AV} {hp : Nat → Option LObj} {x : Operand} {src dst te t0 : TypeId} {id off : Nat} {xs : List AV} (hs : P.underlying src = some (.pointer t0)) (hd : P.underlying dst = some .unsafePointer) (ht : (P.info? t0).map (·.size) = some 2) (hx : ρ x = some (.lp id off)) (hh : hp id = some (.tcells te xs)) (hoff : off < xs.length) : ycs P hp ρ (.convert src dst x) ty (.lp id off) :=
  yar fun B ok0 lv w a o ho hty hi' hops => by
    have hr := hops x _ (by simp [Op.operands]) hx
    obtain ⟨b, n, hb, hv, _⟩ := yck hi' (xs := xs) (by rw [hh]; rfl) (.inl (by intro e; rw [e] at hoff; simp at hoff)) hr
    obtain ⟨b2, n2, hb2, hown⟩ := hi'.obj id _ hh
    rw [hb] at hb2
    cases hb2
    obtain ⟨j, hj, hj2⟩ := Option.map_eq_some_iff.1 ht
    have := Lib.run_to_unsafe (P := P) w ⟨b, off, none⟩ hs hd hj (by rw [hj2]; decide) hown.2.2.2 hoff
    rw [hv] at hr
    exact ⟨_, by simp [execOp, ho, hv, this], hr⟩
theorem yield_fromUnsafe {ρ : Operand → Option AV} {hp : Nat → Option LObj} {x : Operand} {src dst te t0 : TypeId} {id off : Nat} {xs : List AV} (hs : P.underlying src = some .unsafePointer) (hd : P.underlying dst = some (.pointer t0)) (ht : (P.info? t0).isSome = true) (hx : ρ x = some (.lp id off)) (hh : hp id = some (.tcells te xs)) (hne : xs ≠ []) (hlies : liesAt P P.depth te (xs.length / P.cellsOf te) off t0 1 = true) : ycs P hp ρ (.convert src dst x) ty (.lp id off) :=
  yar fun B ok0 lv w a o ho hty hi' hops => by
    have hr := hops x _ (by simp [Op.operands]) hx
    obtain ⟨b, n, hb, hv, _⟩ := yck hi' (xs := xs) (by rw [hh]; rfl) (.inl hne) hr
    obtain ⟨b2, n2, hb2, hown⟩ := hi'.obj id _ hh
    rw [hb] at hb2
    cases hb2
    obtain ⟨j, hj⟩ := Option.isSome_iff_exists.1 ht
    have := Lib.run_from_unsafe (P := P) w ⟨b, off, none⟩ hs hd hj hown.2.2.2 hlies
    rw [hv] at hr
    exact ⟨_, by simp [execOp, ho, hv, this], hr⟩
theorem yield_noEscape {ρ : Operand → Option AV} {hp : Nat → Option LObj} {x : Operand} {f : FuncId} {fn : Func} {ats : Array TypeId} {y : AV} (hf : P.funcs[f]? = some fn) (hname : (fn.name == "runtime.NumGoroutine") = false) (hb : fn.body.isNone = true) (hn : Extern.findNext fn = none) (he : Extern.find fn = some Extern.AbiNoEscape.same) (hx : ρ x = some y) : ycs P hp ρ (.call { callee := .value (.func f), args := #[x], argTypes := ats }) ty y :=
  yar fun B ok0 lv w a o ho hty hi' hops => by
    have hr := hops x _ (by simp [Op.operands, Call.operands]) hx
    refine ⟨a.eval x, ?_, hr⟩
    have := run_callFunc_extern hf hname hb hn he #[a.eval x] w
    rw [Lib.run_noEscape] at this
    simp only [Result.andThen_ok] at this
    have hfe : a.eval (.func f) = .func (.func f) #[] #[] := rfl
    simp [execOp, ho, resolve, Deferred.ofValue, hfe, invoke, this]
end
end Go.Proofs.YtcpgpiabeimefaaDoor
set_option linter.unusedVariables false
set_option maxRecDepth 100000
namespace Go.Proofs.YtcpgpiabeimefaaDoor
theorem sz_1 : yan Tryd.prog 1 1 false := ⟨by kernel_rfl, by kernel_rfl⟩
theorem sz_2 : yan Tryd.prog 2 1 false := ⟨by kernel_rfl, by kernel_rfl⟩
theorem sz_3 : yan Tryd.prog 3 1 false := ⟨by kernel_rfl, by kernel_rfl⟩
theorem sz_4 : yan Tryd.prog 4 1 false := ⟨by kernel_rfl, by kernel_rfl⟩
theorem sz_5 : yan Tryd.prog 5 1 false := ⟨by kernel_rfl, by kernel_rfl⟩
theorem sz_6 : yan Tryd.prog 6 1 false := ⟨by kernel_rfl, by kernel_rfl⟩
theorem sz_7 : yan Tryd.prog 7 4 true := ⟨by kernel_rfl, by kernel_rfl⟩
theorem sz_8 : yan Tryd.prog 8 4 true := ⟨by kernel_rfl, by kernel_rfl⟩
theorem sz_9 : yan Tryd.prog 9 1 false := ⟨by kernel_rfl, by kernel_rfl⟩
theorem sz_10 : yan Tryd.prog 10 1 false := ⟨by kernel_rfl, by kernel_rfl⟩
theorem sz_11 : yan Tryd.prog 11 1 false := ⟨by kernel_rfl, by kernel_rfl⟩
theorem sz_12 : yan Tryd.prog 12 1 false := ⟨by kernel_rfl, by kernel_rfl⟩
theorem sz_13 : yan Tryd.prog 13 2 true := ⟨by kernel_rfl, by kernel_rfl⟩
theorem sz_14 : yan Tryd.prog 14 2 true := ⟨by kernel_rfl, by kernel_rfl⟩
theorem sz_15 : yan Tryd.prog 15 1 false := ⟨by kernel_rfl, by kernel_rfl⟩
theorem sz_16 : yan Tryd.prog 16 1 false := ⟨by kernel_rfl, by kernel_rfl⟩
theorem sz_17 : yan Tryd.prog 17 1 false := ⟨by kernel_rfl, by kernel_rfl⟩
theorem sz_18 : yan Tryd.prog 18 1 true := ⟨by kernel_rfl, by kernel_rfl⟩
theorem sz_19 : yan Tryd.prog 19 1 true := ⟨by kernel_rfl, by kernel_rfl⟩
theorem sz_20 : yan Tryd.prog 20 1 false := ⟨by kernel_rfl, by kernel_rfl⟩
theorem sz_21 : yan Tryd.prog 21 1 false := ⟨by kernel_rfl, by kernel_rfl⟩
theorem sz_22 : yan Tryd.prog 22 1 false := ⟨by kernel_rfl, by kernel_rfl⟩
theorem sz_23 : yan Tryd.prog 23 1 false := ⟨by kernel_rfl, by kernel_rfl⟩
theorem sz_24 : yan Tryd.prog 24 1 false := ⟨by kernel_rfl, by kernel_rfl⟩
theorem sz_25 : yan Tryd.prog 25 1 false := ⟨by kernel_rfl, by kernel_rfl⟩
theorem sz_26 : yan Tryd.prog 26 1 false := ⟨by kernel_rfl, by kernel_rfl⟩
theorem sz_28 : yan Tryd.prog 28 1 false := ⟨by kernel_rfl, by kernel_rfl⟩
theorem sz_29 : yan Tryd.prog 29 1 false := ⟨by kernel_rfl, by kernel_rfl⟩
theorem sz_31 : yan Tryd.prog 31 1 false := ⟨by kernel_rfl, by kernel_rfl⟩
theorem sz_32 : yan Tryd.prog 32 1 false := ⟨by kernel_rfl, by kernel_rfl⟩
theorem sz_34 : yan Tryd.prog 34 1 false := ⟨by kernel_rfl, by kernel_rfl⟩
theorem sz_35 : yan Tryd.prog 35 2 true := ⟨by kernel_rfl, by kernel_rfl⟩
theorem sz_36 : yan Tryd.prog 36 2 true := ⟨by kernel_rfl, by kernel_rfl⟩
theorem sz_37 : yan Tryd.prog 37 1 false := ⟨by kernel_rfl, by kernel_rfl⟩
theorem sz_38 : yan Tryd.prog 38 4 true := ⟨by kernel_rfl, by kernel_rfl⟩
theorem sz_39 : yan Tryd.prog 39 4 true := ⟨by kernel_rfl, by kernel_rfl⟩
theorem sz_41 : yan Tryd.prog 41 1 false := ⟨by kernel_rfl, by kernel_rfl⟩
theorem sz_42 : yan Tryd.prog 42 3 true := ⟨by kernel_rfl, by kernel_rfl⟩
theorem sz_43 : yan Tryd.prog 43 3 true := ⟨by kernel_rfl, by kernel_rfl⟩
theorem sz_45 : yan Tryd.prog 45 1 false := ⟨by kernel_rfl, by kernel_rfl⟩
theorem sz_46 : yan Tryd.prog 46 1 false := ⟨by kernel_rfl, by kernel_rfl⟩
theorem sz_47 : yan Tryd.prog 47 1 false := ⟨by kernel_rfl, by kernel_rfl⟩
theorem sz_48 : yan Tryd.prog 48 1 false := ⟨by kernel_rfl, by kernel_rfl⟩
theorem sz_49 : yan Tryd.prog 49 1 false := ⟨by kernel_rfl, by kernel_rfl⟩
theorem sz_50 : yan Tryd.prog 50 1 false := ⟨by kernel_rfl, by kernel_rfl⟩
theorem sz_51 : yan Tryd.prog 51 2 true := ⟨by kernel_rfl, by kernel_rfl⟩
theorem sz_52 : yan Tryd.prog 52 2 true := ⟨by kernel_rfl, by kernel_rfl⟩
theorem sz_53 : yan Tryd.prog 53 4 true := ⟨by kernel_rfl, by kernel_rfl⟩
theorem sz_54 : yan Tryd.prog 54 4 true := ⟨by kernel_rfl, by kernel_rfl⟩
theorem sz_55 : yan Tryd.prog 55 1 false := ⟨by kernel_rfl, by kernel_rfl⟩
theorem sz_56 : yan Tryd.prog 56 1 false := ⟨by kernel_rfl, by kernel_rfl⟩
theorem sz_57 : yan Tryd.prog 57 1 false := ⟨by kernel_rfl, by kernel_rfl⟩
theorem sz_58 : yan Tryd.prog 58 1 false := ⟨by kernel_rfl, by kernel_rfl⟩
theorem sz_60 : yan Tryd.prog 60 1 false := ⟨by kernel_rfl, by kernel_rfl⟩
theorem sz_61 : yan Tryd.prog 61 1 false := ⟨by kernel_rfl, by kernel_rfl⟩
theorem sz_62 : yan Tryd.prog 62 1 false := ⟨by kernel_rfl, by kernel_rfl⟩
theorem sz_63 : yan Tryd.prog 63 2 true := ⟨by kernel_rfl, by kernel_rfl⟩
theorem sz_64 : yan Tryd.prog 64 2 true := ⟨by kernel_rfl, by kernel_rfl⟩
theorem sz_66 : yan Tryd.prog 66 1 false := ⟨by kernel_rfl, by kernel_rfl⟩
theorem sz_67 : yan Tryd.prog 67 1 false := ⟨by kernel_rfl, by kernel_rfl⟩
theorem sz_68 : yan Tryd.prog 68 1 false := ⟨by kernel_rfl, by kernel_rfl⟩
theorem sz_69 : yan Tryd.prog 69 1 false := ⟨by kernel_rfl, by kernel_rfl⟩
theorem sz_70 : yan Tryd.prog 70 1 false := ⟨by kernel_rfl, by kernel_rfl⟩
theorem sz_71 : yan Tryd.prog 71 1 false := ⟨by kernel_rfl, by kernel_rfl⟩
theorem sz_72 : yan Tryd.prog 72 1 false := ⟨by kernel_rfl, by kernel_rfl⟩
theorem sz_73 : yan Tryd.prog 73 1 false := ⟨by kernel_rfl, by kernel_rfl⟩
theorem sz_74 : yan Tryd.prog 74 1 false := ⟨by kernel_rfl, by kernel_rfl⟩
theorem sz_75 : yan Tryd.prog 75 1 false := ⟨by kernel_rfl, by kernel_rfl⟩
theorem sz_76 : yan Tryd.prog 76 1 false := ⟨by kernel_rfl, by kernel_rfl⟩
theorem sz_77 : yan Tryd.prog 77 1 false := ⟨by kernel_rfl, by kernel_rfl⟩
theorem sz_79 : yan Tryd.prog 79 1 false := ⟨by kernel_rfl, by kernel_rfl⟩
theorem sz_80 : yan Tryd.prog 80 1 false := ⟨by kernel_rfl, by kernel_rfl⟩
theorem sz_81 : yan Tryd.prog 81 1 false := ⟨by kernel_rfl, by kernel_rfl⟩
theorem sz_82 : yan Tryd.prog 82 1 false := ⟨by kernel_rfl, by kernel_rfl⟩
theorem sz_83 : yan Tryd.prog 83 1 false := ⟨by kernel_rfl, by kernel_rfl⟩
theorem sz_84 : yan Tryd.prog 84 1 false := ⟨by kernel_rfl, by kernel_rfl⟩
theorem sz_85 : yan Tryd.prog 85 1 false := ⟨by kernel_rfl, by kernel_rfl⟩
theorem sz_86 : yan Tryd.prog 86 1 false := ⟨by kernel_rfl, by kernel_rfl⟩
theorem sz_87 : yan Tryd.prog 87 1 false := ⟨by kernel_rfl, by kernel_rfl⟩
theorem sz_88 : yan Tryd.prog 88 1 false := ⟨by kernel_rfl, by kernel_rfl⟩
theorem sz_89 : yan Tryd.prog 89 1 false := ⟨by kernel_rfl, by kernel_rfl⟩
theorem sz_90 : yan Tryd.prog 90 1 false := ⟨by kernel_rfl, by kernel_rfl⟩
theorem sz_91 : yan Tryd.prog 91 1 false := ⟨by kernel_rfl, by kernel_rfl⟩
theorem sz_92 : yan Tryd.prog 92 1 false := ⟨by kernel_rfl, by kernel_rfl⟩
theorem sz_93 : yan Tryd.prog 93 1 false := ⟨by kernel_rfl, by kernel_rfl⟩
theorem sz_94 : yan Tryd.prog 94 1 false := ⟨by kernel_rfl, by kernel_rfl⟩
theorem sz_95 : yan Tryd.prog 95 1 false := ⟨by kernel_rfl, by kernel_rfl⟩
theorem sz_96 : yan Tryd.prog 96 1 false := ⟨by kernel_rfl, by kernel_rfl⟩
theorem sz_97 : yan Tryd.prog 97 1 false := ⟨by kernel_rfl, by kernel_rfl⟩
theorem sz_98 : yan Tryd.prog 98 24 true := ⟨by kernel_rfl, by kernel_rfl⟩
theorem sz_99 : yan Tryd.prog 99 1 false := ⟨by kernel_rfl, by kernel_rfl⟩
theorem sz_100 : yan Tryd.prog 100 1 false := ⟨by kernel_rfl, by kernel_rfl⟩
theorem sz_101 : yan Tryd.prog 101 1 false := ⟨by kernel_rfl, by kernel_rfl⟩
theorem sz_103 : yan Tryd.prog 103 1 false := ⟨by kernel_rfl, by kernel_rfl⟩
theorem sz_104 : yan Tryd.prog 104 1 false := ⟨by kernel_rfl, by kernel_rfl⟩
theorem sz_105 : yan Tryd.prog 105 20 true := ⟨by kernel_rfl, by kernel_rfl⟩
theorem sz_106 : yan Tryd.prog 106 1 false := ⟨by kernel_rfl, by kernel_rfl⟩
theorem sz_107 : yan Tryd.prog 107 65 true := ⟨by kernel_rfl, by kernel_rfl⟩
theorem sz_108 : yan Tryd.prog 108 1 false := ⟨by kernel_rfl, by kernel_rfl⟩
theorem sz_109 : yan Tryd.prog 109 1 false := ⟨by kernel_rfl, by kernel_rfl⟩
theorem sz_110 : yan Tryd.prog 110 1 false := ⟨by kernel_rfl, by kernel_rfl⟩
theorem sz_111 : yan Tryd.prog 111 32 true := ⟨by kernel_rfl, by kernel_rfl⟩
theorem sz_112 : yan Tryd.prog 112 64 true := ⟨by kernel_rfl, by kernel_rfl⟩
theorem sz_113 : yan Tryd.prog 113 4 true := ⟨by kernel_rfl, by kernel_rfl⟩
theorem sz_114 : yan Tryd.prog 114 4 true := ⟨by kernel_rfl, by kernel_rfl⟩
theorem sz_118 : yan Tryd.prog 118 1 false := ⟨by kernel_rfl, by kernel_rfl⟩
theorem sz_119 : yan Tryd.prog 119 1 false := ⟨by kernel_rfl, by kernel_rfl⟩
theorem sz_120 : yan Tryd.prog 120 1 false := ⟨by kernel_rfl, by kernel_rfl⟩
theorem sz_121 : yan Tryd.prog 121 1 false := ⟨by kernel_rfl, by kernel_rfl⟩
theorem sz_122 : yan Tryd.prog 122 1 false := ⟨by kernel_rfl, by kernel_rfl⟩
theorem sz_123 : yan Tryd.prog 123 11 true := ⟨by kernel_rfl, by kernel_rfl⟩
theorem sz_124 : yan Tryd.prog 124 11 true := ⟨by kernel_rfl, by kernel_rfl⟩
def ty_1 : Ty := ⟨.other, 1, false, [.nilFunc]⟩
theorem ok_1 : ycc Tryd.prog 1 ty_1 := ⟨sz_1, yai (by kernel_rfl), trivial⟩
def ty_2 : Ty := ⟨(.int .i64), 1, false, [(.int .i64 0)]⟩
theorem ok_2 : ycc Tryd.prog 2 ty_2 := ⟨sz_2, yai (by kernel_rfl), Tryd.underlying2⟩
def ty_3 : Ty := ⟨(.int .i64), 1, false, [(.int .i64 0)]⟩
theorem ok_3 : ycc Tryd.prog 3 ty_3 := ⟨sz_3, yai (by kernel_rfl), Tryd.underlying3⟩
def ty_4 : Ty := ⟨.bool, 1, false, [(.bool false)]⟩
theorem ok_4 : ycc Tryd.prog 4 ty_4 := ⟨sz_4, yai (by kernel_rfl), Tryd.underlying4⟩
def ty_5 : Ty := ⟨(.int .u8), 1, false, [(.int .u8 0)]⟩
theorem ok_5 : ycc Tryd.prog 5 ty_5 := ⟨sz_5, yai (by kernel_rfl), Tryd.underlying5⟩
def ty_6 : Ty := ⟨(.int .u8), 1, false, [(.int .u8 0)]⟩
theorem ok_6 : ycc Tryd.prog 6 ty_6 := ⟨sz_6, yai (by kernel_rfl), Tryd.underlying6⟩
def ty_7 : Ty := ⟨(.strct [(0, 1, false), (1, 1, false), (2, 1, false), (3, 1, false)]), 4, true, [(.int .i64 0), (.int .i64 0), (.bool false), (.int .u8 0)]⟩
theorem ok_7 : ycc Tryd.prog 7 ty_7 := ⟨sz_7, yai (by kernel_rfl), (ycf Tryd.underlying7 ⟨⟨rfl, sz_2, by decide⟩, ⟨rfl, sz_3, by decide⟩, ⟨rfl, sz_4, by decide⟩, ⟨rfl, sz_6, by decide⟩, trivial⟩)⟩
def ty_8 : Ty := ⟨(.strct [(0, 1, false), (1, 1, false), (2, 1, false), (3, 1, false)]), 4, true, [(.int .i64 0), (.int .i64 0), (.bool false), (.int .u8 0)]⟩
theorem ok_8 : ycc Tryd.prog 8 ty_8 := ⟨sz_8, yai (by kernel_rfl), (ycf Tryd.underlying8 ⟨⟨rfl, sz_2, by decide⟩, ⟨rfl, sz_3, by decide⟩, ⟨rfl, sz_4, by decide⟩, ⟨rfl, sz_6, by decide⟩, trivial⟩)⟩
def ty_9 : Ty := ⟨.string, 1, false, [(.string ByteArray.empty)]⟩
theorem ok_9 : ycc Tryd.prog 9 ty_9 := ⟨sz_9, yai (by kernel_rfl), Tryd.underlying9⟩
def ty_10 : Ty := ⟨.string, 1, false, [(.string ByteArray.empty)]⟩
theorem ok_10 : ycc Tryd.prog 10 ty_10 := ⟨sz_10, yai (by kernel_rfl), Tryd.underlying10⟩
def ty_11 : Ty := ⟨.string, 1, false, [(.string ByteArray.empty)]⟩
theorem ok_11 : ycc Tryd.prog 11 ty_11 := ⟨sz_11, yai (by kernel_rfl), Tryd.underlying11⟩
def ty_12 : Ty := ⟨(.int .u64), 1, false, [(.int .u64 0)]⟩
theorem ok_12 : ycc Tryd.prog 12 ty_12 := ⟨sz_12, yai (by kernel_rfl), Tryd.underlying12⟩
def ty_13 : Ty := ⟨(.strct [(0, 1, false), (1, 1, false)]), 2, true, [(.string ByteArray.empty), (.int .u64 0)]⟩
theorem ok_13 : ycc Tryd.prog 13 ty_13 := ⟨sz_13, yai (by kernel_rfl), (ycf Tryd.underlying13 ⟨⟨rfl, sz_9, by decide⟩, ⟨rfl, sz_12, by decide⟩, trivial⟩)⟩
def ty_14 : Ty := ⟨(.strct [(0, 1, false), (1, 1, false)]), 2, true, [(.string ByteArray.empty), (.int .u64 0)]⟩
theorem ok_14 : ycc Tryd.prog 14 ty_14 := ⟨sz_14, yai (by kernel_rfl), (ycf Tryd.underlying14 ⟨⟨rfl, sz_9, by decide⟩, ⟨rfl, sz_12, by decide⟩, trivial⟩)⟩
def ty_15 : Ty := ⟨.other, 1, false, [(.pointer none)]⟩
theorem ok_15 : ycc Tryd.prog 15 ty_15 := ⟨sz_15, yai (by kernel_rfl), trivial⟩
def ty_16 : Ty := ⟨.other, 1, false, [(.pointer none)]⟩
theorem ok_16 : ycc Tryd.prog 16 ty_16 := ⟨sz_16, yai (by kernel_rfl), trivial⟩
def ty_17 : Ty := ⟨.other, 1, false, [(.pointer none)]⟩
theorem ok_17 : ycc Tryd.prog 17 ty_17 := ⟨sz_17, yai (by kernel_rfl), trivial⟩
def ty_18 : Ty := ⟨(.strct [(0, 1, false)]), 1, true, [(.pointer none)]⟩
theorem ok_18 : ycc Tryd.prog 18 ty_18 := ⟨sz_18, yai (by kernel_rfl), (ycf Tryd.underlying18 ⟨⟨rfl, sz_17, by decide⟩, trivial⟩)⟩
def ty_19 : Ty := ⟨(.strct [(0, 1, false)]), 1, true, [(.pointer none)]⟩
theorem ok_19 : ycc Tryd.prog 19 ty_19 := ⟨sz_19, yai (by kernel_rfl), (ycf Tryd.underlying19 ⟨⟨rfl, sz_17, by decide⟩, trivial⟩)⟩
def ty_20 : Ty := ⟨.other, 1, false, [.nilIface]⟩
theorem ok_20 : ycc Tryd.prog 20 ty_20 := ⟨sz_20, yai (by kernel_rfl), trivial⟩
def ty_21 : Ty := ⟨(.int .i32), 1, false, [(.int .i32 0)]⟩
theorem ok_21 : ycc Tryd.prog 21 ty_21 := ⟨sz_21, yai (by kernel_rfl), Tryd.underlying21⟩
def ty_22 : Ty := ⟨(.slc 9 1 false 16 [(.string ByteArray.empty)]), 1, false, [(.slice none 0 0)]⟩
theorem ok_22 : ycc Tryd.prog 22 ty_22 := ⟨sz_22, yai (by kernel_rfl), ⟨Tryd.underlying22, sz_9, by kernel_rfl, yai (by kernel_rfl), rfl, by decide⟩⟩
def ty_23 : Ty := ⟨.other, 1, false, [.nilFunc]⟩
theorem ok_23 : ycc Tryd.prog 23 ty_23 := ⟨sz_23, yai (by kernel_rfl), trivial⟩
def ty_24 : Ty := ⟨.other, 1, false, [.nilFunc]⟩
theorem ok_24 : ycc Tryd.prog 24 ty_24 := ⟨sz_24, yai (by kernel_rfl), trivial⟩
def ty_25 : Ty := ⟨(.slc 39 4 true 32 [(.int .i64 0), (.int .i64 0), (.int .i64 0), (.int .i64 0)]), 1, false, [(.slice none 0 0)]⟩
theorem ok_25 : ycc Tryd.prog 25 ty_25 := ⟨sz_25, yai (by kernel_rfl), ⟨Tryd.underlying25, sz_39, by kernel_rfl, yai (by kernel_rfl), rfl, by decide⟩⟩
def ty_26 : Ty := ⟨(.int .i64), 1, false, [(.int .i64 0)]⟩
theorem ok_26 : ycc Tryd.prog 26 ty_26 := ⟨sz_26, yai (by kernel_rfl), Tryd.underlying26⟩
def ty_28 : Ty := ⟨.other, 1, false, [.nilFunc]⟩
theorem ok_28 : ycc Tryd.prog 28 ty_28 := ⟨sz_28, yai (by kernel_rfl), trivial⟩
def ty_29 : Ty := ⟨(.slc 36 2 true 16 [(.int .i64 0), (.int .i64 0)]), 1, false, [(.slice none 0 0)]⟩
theorem ok_29 : ycc Tryd.prog 29 ty_29 := ⟨sz_29, yai (by kernel_rfl), ⟨Tryd.underlying29, sz_36, by kernel_rfl, yai (by kernel_rfl), rfl, by decide⟩⟩
def ty_31 : Ty := ⟨.other, 1, false, [.nilFunc]⟩
theorem ok_31 : ycc Tryd.prog 31 ty_31 := ⟨sz_31, yai (by kernel_rfl), trivial⟩
def ty_32 : Ty := ⟨.other, 1, false, [.nilFunc]⟩
theorem ok_32 : ycc Tryd.prog 32 ty_32 := ⟨sz_32, yai (by kernel_rfl), trivial⟩
def ty_34 : Ty := ⟨.other, 1, false, [.nilFunc]⟩
theorem ok_34 : ycc Tryd.prog 34 ty_34 := ⟨sz_34, yai (by kernel_rfl), trivial⟩
def ty_35 : Ty := ⟨(.strct [(0, 1, false), (1, 1, false)]), 2, true, [(.int .i64 0), (.int .i64 0)]⟩
theorem ok_35 : ycc Tryd.prog 35 ty_35 := ⟨sz_35, yai (by kernel_rfl), (ycf Tryd.underlying35 ⟨⟨rfl, sz_3, by decide⟩, ⟨rfl, sz_3, by decide⟩, trivial⟩)⟩
def ty_36 : Ty := ⟨(.strct [(0, 1, false), (1, 1, false)]), 2, true, [(.int .i64 0), (.int .i64 0)]⟩
theorem ok_36 : ycc Tryd.prog 36 ty_36 := ⟨sz_36, yai (by kernel_rfl), (ycf Tryd.underlying36 ⟨⟨rfl, sz_3, by decide⟩, ⟨rfl, sz_3, by decide⟩, trivial⟩)⟩
def ty_37 : Ty := ⟨.other, 1, false, [.nilFunc]⟩
theorem ok_37 : ycc Tryd.prog 37 ty_37 := ⟨sz_37, yai (by kernel_rfl), trivial⟩
def ty_38 : Ty := ⟨(.strct [(0, 1, false), (1, 1, false), (2, 1, false), (3, 1, false)]), 4, true, [(.int .i64 0), (.int .i64 0), (.int .i64 0), (.int .i64 0)]⟩
theorem ok_38 : ycc Tryd.prog 38 ty_38 := ⟨sz_38, yai (by kernel_rfl), (ycf Tryd.underlying38 ⟨⟨rfl, sz_3, by decide⟩, ⟨rfl, sz_3, by decide⟩, ⟨rfl, sz_3, by decide⟩, ⟨rfl, sz_3, by decide⟩, trivial⟩)⟩
def ty_39 : Ty := ⟨(.strct [(0, 1, false), (1, 1, false), (2, 1, false), (3, 1, false)]), 4, true, [(.int .i64 0), (.int .i64 0), (.int .i64 0), (.int .i64 0)]⟩
theorem ok_39 : ycc Tryd.prog 39 ty_39 := ⟨sz_39, yai (by kernel_rfl), (ycf Tryd.underlying39 ⟨⟨rfl, sz_3, by decide⟩, ⟨rfl, sz_3, by decide⟩, ⟨rfl, sz_3, by decide⟩, ⟨rfl, sz_3, by decide⟩, trivial⟩)⟩
def ty_41 : Ty := ⟨.other, 1, false, [.nilFunc]⟩
theorem ok_41 : ycc Tryd.prog 41 ty_41 := ⟨sz_41, yai (by kernel_rfl), trivial⟩
def ty_42 : Ty := ⟨(.strct [(0, 1, false), (1, 1, false), (2, 1, false)]), 3, true, [(.string ByteArray.empty), (.slice none 0 0), (.slice none 0 0)]⟩
theorem ok_42 : ycc Tryd.prog 42 ty_42 := ⟨sz_42, yai (by kernel_rfl), (ycf Tryd.underlying42 ⟨⟨rfl, sz_9, by decide⟩, ⟨rfl, sz_25, by decide⟩, ⟨rfl, sz_22, by decide⟩, trivial⟩)⟩
def ty_43 : Ty := ⟨(.strct [(0, 1, false), (1, 1, false), (2, 1, false)]), 3, true, [(.string ByteArray.empty), (.slice none 0 0), (.slice none 0 0)]⟩
theorem ok_43 : ycc Tryd.prog 43 ty_43 := ⟨sz_43, yai (by kernel_rfl), (ycf Tryd.underlying43 ⟨⟨rfl, sz_9, by decide⟩, ⟨rfl, sz_25, by decide⟩, ⟨rfl, sz_22, by decide⟩, trivial⟩)⟩
def ty_45 : Ty := ⟨.other, 1, false, [.nilFunc]⟩
theorem ok_45 : ycc Tryd.prog 45 ty_45 := ⟨sz_45, yai (by kernel_rfl), trivial⟩
def ty_46 : Ty := ⟨.other, 1, false, [.nilFunc]⟩
theorem ok_46 : ycc Tryd.prog 46 ty_46 := ⟨sz_46, yai (by kernel_rfl), trivial⟩
def ty_47 : Ty := ⟨.other, 1, false, [.nilFunc]⟩
theorem ok_47 : ycc Tryd.prog 47 ty_47 := ⟨sz_47, yai (by kernel_rfl), trivial⟩
def ty_48 : Ty := ⟨.other, 1, false, [.nilFunc]⟩
theorem ok_48 : ycc Tryd.prog 48 ty_48 := ⟨sz_48, yai (by kernel_rfl), trivial⟩
def ty_49 : Ty := ⟨.other, 1, false, [(.pointer none)]⟩
theorem ok_49 : ycc Tryd.prog 49 ty_49 := ⟨sz_49, yai (by kernel_rfl), trivial⟩
def ty_50 : Ty := ⟨(.slc 5 1 false 1 [(.int .u8 0)]), 1, false, [(.slice none 0 0)]⟩
theorem ok_50 : ycc Tryd.prog 50 ty_50 := ⟨sz_50, yai (by kernel_rfl), ⟨Tryd.underlying50, sz_5, by kernel_rfl, yai (by kernel_rfl), rfl, by decide⟩⟩
def ty_51 : Ty := ⟨(.strct [(0, 1, false), (1, 1, false)]), 2, true, [(.pointer none), (.slice none 0 0)]⟩
theorem ok_51 : ycc Tryd.prog 51 ty_51 := ⟨sz_51, yai (by kernel_rfl), (ycf Tryd.underlying51 ⟨⟨rfl, sz_49, by decide⟩, ⟨rfl, sz_50, by decide⟩, trivial⟩)⟩
def ty_52 : Ty := ⟨(.strct [(0, 1, false), (1, 1, false)]), 2, true, [(.pointer none), (.slice none 0 0)]⟩
theorem ok_52 : ycc Tryd.prog 52 ty_52 := ⟨sz_52, yai (by kernel_rfl), (ycf Tryd.underlying52 ⟨⟨rfl, sz_49, by decide⟩, ⟨rfl, sz_50, by decide⟩, trivial⟩)⟩
def ty_53 : Ty := ⟨(.strct [(0, 2, true), (2, 1, false), (3, 1, false)]), 4, true, [(.pointer none), (.slice none 0 0), (.slice none 0 0), (.slice none 0 0)]⟩
theorem ok_53 : ycc Tryd.prog 53 ty_53 := ⟨sz_53, yai (by kernel_rfl), (ycf Tryd.underlying53 ⟨⟨rfl, sz_52, by decide⟩, ⟨rfl, sz_29, by decide⟩, ⟨rfl, sz_22, by decide⟩, trivial⟩)⟩
def ty_54 : Ty := ⟨(.strct [(0, 2, true), (2, 1, false), (3, 1, false)]), 4, true, [(.pointer none), (.slice none 0 0), (.slice none 0 0), (.slice none 0 0)]⟩
theorem ok_54 : ycc Tryd.prog 54 ty_54 := ⟨sz_54, yai (by kernel_rfl), (ycf Tryd.underlying54 ⟨⟨rfl, sz_52, by decide⟩, ⟨rfl, sz_29, by decide⟩, ⟨rfl, sz_22, by decide⟩, trivial⟩)⟩
def ty_55 : Ty := ⟨.other, 1, false, [.nilFunc]⟩
theorem ok_55 : ycc Tryd.prog 55 ty_55 := ⟨sz_55, yai (by kernel_rfl), trivial⟩
def ty_56 : Ty := ⟨.other, 1, false, [.nilFunc]⟩
theorem ok_56 : ycc Tryd.prog 56 ty_56 := ⟨sz_56, yai (by kernel_rfl), trivial⟩
def ty_57 : Ty := ⟨.other, 1, false, [.nilFunc]⟩
theorem ok_57 : ycc Tryd.prog 57 ty_57 := ⟨sz_57, yai (by kernel_rfl), trivial⟩
def ty_58 : Ty := ⟨.other, 1, false, [.nilFunc]⟩
theorem ok_58 : ycc Tryd.prog 58 ty_58 := ⟨sz_58, yai (by kernel_rfl), trivial⟩
def ty_60 : Ty := ⟨.other, 1, false, [.nilFunc]⟩
theorem ok_60 : ycc Tryd.prog 60 ty_60 := ⟨sz_60, yai (by kernel_rfl), trivial⟩
def ty_61 : Ty := ⟨.other, 1, false, [.nilFunc]⟩
theorem ok_61 : ycc Tryd.prog 61 ty_61 := ⟨sz_61, yai (by kernel_rfl), trivial⟩
def ty_62 : Ty := ⟨.other, 1, false, [.nilFunc]⟩
theorem ok_62 : ycc Tryd.prog 62 ty_62 := ⟨sz_62, yai (by kernel_rfl), trivial⟩
def ty_63 : Ty := ⟨(.strct [(0, 1, false), (1, 1, false)]), 2, true, [(.int .i64 0), (.int .i64 0)]⟩
theorem ok_63 : ycc Tryd.prog 63 ty_63 := ⟨sz_63, yai (by kernel_rfl), (ycf Tryd.underlying63 ⟨⟨rfl, sz_3, by decide⟩, ⟨rfl, sz_26, by decide⟩, trivial⟩)⟩
def ty_64 : Ty := ⟨(.strct [(0, 1, false), (1, 1, false)]), 2, true, [(.int .i64 0), (.int .i64 0)]⟩
theorem ok_64 : ycc Tryd.prog 64 ty_64 := ⟨sz_64, yai (by kernel_rfl), (ycf Tryd.underlying64 ⟨⟨rfl, sz_3, by decide⟩, ⟨rfl, sz_26, by decide⟩, trivial⟩)⟩
def ty_66 : Ty := ⟨.other, 1, false, [.nilFunc]⟩
theorem ok_66 : ycc Tryd.prog 66 ty_66 := ⟨sz_66, yai (by kernel_rfl), trivial⟩
def ty_67 : Ty := ⟨.other, 1, false, [(.pointer none)]⟩
theorem ok_67 : ycc Tryd.prog 67 ty_67 := ⟨sz_67, yai (by kernel_rfl), trivial⟩
def ty_68 : Ty := ⟨.other, 1, false, [.nilFunc]⟩
theorem ok_68 : ycc Tryd.prog 68 ty_68 := ⟨sz_68, yai (by kernel_rfl), trivial⟩
def ty_69 : Ty := ⟨.other, 1, false, [.nilFunc]⟩
theorem ok_69 : ycc Tryd.prog 69 ty_69 := ⟨sz_69, yai (by kernel_rfl), trivial⟩
def ty_70 : Ty := ⟨.other, 1, false, [.nilFunc]⟩
theorem ok_70 : ycc Tryd.prog 70 ty_70 := ⟨sz_70, yai (by kernel_rfl), trivial⟩
def ty_71 : Ty := ⟨.other, 1, false, [.nilFunc]⟩
theorem ok_71 : ycc Tryd.prog 71 ty_71 := ⟨sz_71, yai (by kernel_rfl), trivial⟩
def ty_72 : Ty := ⟨.other, 1, false, [.nilFunc]⟩
theorem ok_72 : ycc Tryd.prog 72 ty_72 := ⟨sz_72, yai (by kernel_rfl), trivial⟩
def ty_73 : Ty := ⟨.other, 1, false, [.nilFunc]⟩
theorem ok_73 : ycc Tryd.prog 73 ty_73 := ⟨sz_73, yai (by kernel_rfl), trivial⟩
def ty_74 : Ty := ⟨.other, 1, false, [(.pointer none)]⟩
theorem ok_74 : ycc Tryd.prog 74 ty_74 := ⟨sz_74, yai (by kernel_rfl), trivial⟩
def ty_75 : Ty := ⟨.other, 1, false, [.nilFunc]⟩
theorem ok_75 : ycc Tryd.prog 75 ty_75 := ⟨sz_75, yai (by kernel_rfl), trivial⟩
def ty_76 : Ty := ⟨.other, 1, false, [.nilIface]⟩
theorem ok_76 : ycc Tryd.prog 76 ty_76 := ⟨sz_76, yai (by kernel_rfl), trivial⟩
def ty_77 : Ty := ⟨.other, 1, false, [.nilIface]⟩
theorem ok_77 : ycc Tryd.prog 77 ty_77 := ⟨sz_77, yai (by kernel_rfl), trivial⟩
def ty_79 : Ty := ⟨.other, 1, false, [.nilFunc]⟩
theorem ok_79 : ycc Tryd.prog 79 ty_79 := ⟨sz_79, yai (by kernel_rfl), trivial⟩
def ty_80 : Ty := ⟨.other, 1, false, [.nilFunc]⟩
theorem ok_80 : ycc Tryd.prog 80 ty_80 := ⟨sz_80, yai (by kernel_rfl), trivial⟩
def ty_81 : Ty := ⟨.other, 1, false, [(.pointer none)]⟩
theorem ok_81 : ycc Tryd.prog 81 ty_81 := ⟨sz_81, yai (by kernel_rfl), trivial⟩
def ty_82 : Ty := ⟨.other, 1, false, [.nilFunc]⟩
theorem ok_82 : ycc Tryd.prog 82 ty_82 := ⟨sz_82, yai (by kernel_rfl), trivial⟩
def ty_83 : Ty := ⟨.other, 1, false, [.nilFunc]⟩
theorem ok_83 : ycc Tryd.prog 83 ty_83 := ⟨sz_83, yai (by kernel_rfl), trivial⟩
def ty_84 : Ty := ⟨.other, 1, false, [.nilFunc]⟩
theorem ok_84 : ycc Tryd.prog 84 ty_84 := ⟨sz_84, yai (by kernel_rfl), trivial⟩
def ty_85 : Ty := ⟨.other, 1, false, [.nilFunc]⟩
theorem ok_85 : ycc Tryd.prog 85 ty_85 := ⟨sz_85, yai (by kernel_rfl), trivial⟩
def ty_86 : Ty := ⟨(.slc 29 1 false 24 [(.slice none 0 0)]), 1, false, [(.slice none 0 0)]⟩
theorem ok_86 : ycc Tryd.prog 86 ty_86 := ⟨sz_86, yai (by kernel_rfl), ⟨Tryd.underlying86, sz_29, by kernel_rfl, yai (by kernel_rfl), rfl, by decide⟩⟩
def ty_87 : Ty := ⟨.other, 1, false, [.nilFunc]⟩
theorem ok_87 : ycc Tryd.prog 87 ty_87 := ⟨sz_87, yai (by kernel_rfl), trivial⟩
def ty_88 : Ty := ⟨.other, 1, false, [.nilFunc]⟩
theorem ok_88 : ycc Tryd.prog 88 ty_88 := ⟨sz_88, yai (by kernel_rfl), trivial⟩
def ty_89 : Ty := ⟨.other, 1, false, [.nilFunc]⟩
theorem ok_89 : ycc Tryd.prog 89 ty_89 := ⟨sz_89, yai (by kernel_rfl), trivial⟩
def ty_90 : Ty := ⟨.other, 1, false, [.nilFunc]⟩
theorem ok_90 : ycc Tryd.prog 90 ty_90 := ⟨sz_90, yai (by kernel_rfl), trivial⟩
def ty_91 : Ty := ⟨.other, 1, false, [.nilFunc]⟩
theorem ok_91 : ycc Tryd.prog 91 ty_91 := ⟨sz_91, yai (by kernel_rfl), trivial⟩
def ty_92 : Ty := ⟨.other, 1, false, [.nilFunc]⟩
theorem ok_92 : ycc Tryd.prog 92 ty_92 := ⟨sz_92, yai (by kernel_rfl), trivial⟩
def ty_93 : Ty := ⟨.other, 1, false, [.nilFunc]⟩
theorem ok_93 : ycc Tryd.prog 93 ty_93 := ⟨sz_93, yai (by kernel_rfl), trivial⟩
def ty_94 : Ty := ⟨(.slc 3 1 false 8 [(.int .i64 0)]), 1, false, [(.slice none 0 0)]⟩
theorem ok_94 : ycc Tryd.prog 94 ty_94 := ⟨sz_94, yai (by kernel_rfl), ⟨Tryd.underlying94, sz_3, by kernel_rfl, yai (by kernel_rfl), rfl, by decide⟩⟩
def ty_95 : Ty := ⟨.other, 1, false, [(.pointer none)]⟩
theorem ok_95 : ycc Tryd.prog 95 ty_95 := ⟨sz_95, yai (by kernel_rfl), trivial⟩
def ty_96 : Ty := ⟨.other, 1, false, [.nilFunc]⟩
theorem ok_96 : ycc Tryd.prog 96 ty_96 := ⟨sz_96, yai (by kernel_rfl), trivial⟩
def ty_97 : Ty := ⟨.other, 1, false, [.nilFunc]⟩
theorem ok_97 : ycc Tryd.prog 97 ty_97 := ⟨sz_97, yai (by kernel_rfl), trivial⟩
def ty_98 : Ty := ⟨(.arr 24 1 false), 24, true, [(.int .u8 0), (.int .u8 0), (.int .u8 0), (.int .u8 0), (.int .u8 0), (.int .u8 0), (.int .u8 0), (.int .u8 0), (.int .u8 0), (.int .u8 0), (.int .u8 0), (.int .u8 0), (.int .u8 0), (.int .u8 0), (.int .u8 0), (.int .u8 0), (.int .u8 0), (.int .u8 0), (.int .u8 0), (.int .u8 0), (.int .u8 0), (.int .u8 0), (.int .u8 0), (.int .u8 0)]⟩
theorem ok_98 : ycc Tryd.prog 98 ty_98 := ⟨sz_98, yai (by kernel_rfl), ⟨_, Tryd.underlying98, sz_5⟩⟩
def ty_99 : Ty := ⟨(.int .u64), 1, false, [(.int .u64 0)]⟩
theorem ok_99 : ycc Tryd.prog 99 ty_99 := ⟨sz_99, yai (by kernel_rfl), Tryd.underlying99⟩
def ty_100 : Ty := ⟨.other, 1, false, [.nilFunc]⟩
theorem ok_100 : ycc Tryd.prog 100 ty_100 := ⟨sz_100, yai (by kernel_rfl), trivial⟩
def ty_101 : Ty := ⟨.other, 1, false, [.nilFunc]⟩
theorem ok_101 : ycc Tryd.prog 101 ty_101 := ⟨sz_101, yai (by kernel_rfl), trivial⟩
def ty_103 : Ty := ⟨.other, 1, false, [.nilFunc]⟩
theorem ok_103 : ycc Tryd.prog 103 ty_103 := ⟨sz_103, yai (by kernel_rfl), trivial⟩
def ty_104 : Ty := ⟨.other, 1, false, [.nilFunc]⟩
theorem ok_104 : ycc Tryd.prog 104 ty_104 := ⟨sz_104, yai (by kernel_rfl), trivial⟩
def ty_105 : Ty := ⟨(.arr 20 1 false), 20, true, [(.int .u64 0), (.int .u64 0), (.int .u64 0), (.int .u64 0), (.int .u64 0), (.int .u64 0), (.int .u64 0), (.int .u64 0), (.int .u64 0), (.int .u64 0), (.int .u64 0), (.int .u64 0), (.int .u64 0), (.int .u64 0), (.int .u64 0), (.int .u64 0), (.int .u64 0), (.int .u64 0), (.int .u64 0), (.int .u64 0)]⟩
theorem ok_105 : ycc Tryd.prog 105 ty_105 := ⟨sz_105, yai (by kernel_rfl), ⟨_, Tryd.underlying105, sz_99⟩⟩
def ty_106 : Ty := ⟨(.int .u32), 1, false, [(.int .u32 0)]⟩
theorem ok_106 : ycc Tryd.prog 106 ty_106 := ⟨sz_106, yai (by kernel_rfl), Tryd.underlying106⟩
def ty_107 : Ty := ⟨(.arr 65 1 false), 65, true, [(.int .u8 0), (.int .u8 0), (.int .u8 0), (.int .u8 0), (.int .u8 0), (.int .u8 0), (.int .u8 0), (.int .u8 0), (.int .u8 0), (.int .u8 0), (.int .u8 0), (.int .u8 0), (.int .u8 0), (.int .u8 0), (.int .u8 0), (.int .u8 0), (.int .u8 0), (.int .u8 0), (.int .u8 0), (.int .u8 0), (.int .u8 0), (.int .u8 0), (.int .u8 0), (.int .u8 0), (.int .u8 0), (.int .u8 0), (.int .u8 0), (.int .u8 0), (.int .u8 0), (.int .u8 0), (.int .u8 0), (.int .u8 0), (.int .u8 0), (.int .u8 0), (.int .u8 0), (.int .u8 0), (.int .u8 0), (.int .u8 0), (.int .u8 0), (.int .u8 0), (.int .u8 0), (.int .u8 0), (.int .u8 0), (.int .u8 0), (.int .u8 0), (.int .u8 0), (.int .u8 0), (.int .u8 0), (.int .u8 0), (.int .u8 0), (.int .u8 0), (.int .u8 0), (.int .u8 0), (.int .u8 0), (.int .u8 0), (.int .u8 0), (.int .u8 0), (.int .u8 0), (.int .u8 0), (.int .u8 0), (.int .u8 0), (.int .u8 0), (.int .u8 0), (.int .u8 0), (.int .u8 0)]⟩
theorem ok_107 : ycc Tryd.prog 107 ty_107 := ⟨sz_107, yai (by kernel_rfl), ⟨_, Tryd.underlying107, sz_5⟩⟩
def ty_108 : Ty := ⟨(.int .u64), 1, false, [(.int .u64 0)]⟩
theorem ok_108 : ycc Tryd.prog 108 ty_108 := ⟨sz_108, yai (by kernel_rfl), Tryd.underlying108⟩
def ty_109 : Ty := ⟨.other, 1, false, [.nilFunc]⟩
theorem ok_109 : ycc Tryd.prog 109 ty_109 := ⟨sz_109, yai (by kernel_rfl), trivial⟩
def ty_110 : Ty := ⟨.other, 1, false, [.nilFunc]⟩
theorem ok_110 : ycc Tryd.prog 110 ty_110 := ⟨sz_110, yai (by kernel_rfl), trivial⟩
def ty_111 : Ty := ⟨(.arr 32 1 false), 32, true, [(.int .u8 0), (.int .u8 0), (.int .u8 0), (.int .u8 0), (.int .u8 0), (.int .u8 0), (.int .u8 0), (.int .u8 0), (.int .u8 0), (.int .u8 0), (.int .u8 0), (.int .u8 0), (.int .u8 0), (.int .u8 0), (.int .u8 0), (.int .u8 0), (.int .u8 0), (.int .u8 0), (.int .u8 0), (.int .u8 0), (.int .u8 0), (.int .u8 0), (.int .u8 0), (.int .u8 0), (.int .u8 0), (.int .u8 0), (.int .u8 0), (.int .u8 0), (.int .u8 0), (.int .u8 0), (.int .u8 0), (.int .u8 0)]⟩
theorem ok_111 : ycc Tryd.prog 111 ty_111 := ⟨sz_111, yai (by kernel_rfl), ⟨_, Tryd.underlying111, sz_5⟩⟩
def ty_112 : Ty := ⟨(.arr 64 1 false), 64, true, [(.int .u8 0), (.int .u8 0), (.int .u8 0), (.int .u8 0), (.int .u8 0), (.int .u8 0), (.int .u8 0), (.int .u8 0), (.int .u8 0), (.int .u8 0), (.int .u8 0), (.int .u8 0), (.int .u8 0), (.int .u8 0), (.int .u8 0), (.int .u8 0), (.int .u8 0), (.int .u8 0), (.int .u8 0), (.int .u8 0), (.int .u8 0), (.int .u8 0), (.int .u8 0), (.int .u8 0), (.int .u8 0), (.int .u8 0), (.int .u8 0), (.int .u8 0), (.int .u8 0), (.int .u8 0), (.int .u8 0), (.int .u8 0), (.int .u8 0), (.int .u8 0), (.int .u8 0), (.int .u8 0), (.int .u8 0), (.int .u8 0), (.int .u8 0), (.int .u8 0), (.int .u8 0), (.int .u8 0), (.int .u8 0), (.int .u8 0), (.int .u8 0), (.int .u8 0), (.int .u8 0), (.int .u8 0), (.int .u8 0), (.int .u8 0), (.int .u8 0), (.int .u8 0), (.int .u8 0), (.int .u8 0), (.int .u8 0), (.int .u8 0), (.int .u8 0), (.int .u8 0), (.int .u8 0), (.int .u8 0), (.int .u8 0), (.int .u8 0), (.int .u8 0), (.int .u8 0)]⟩
theorem ok_112 : ycc Tryd.prog 112 ty_112 := ⟨sz_112, yai (by kernel_rfl), ⟨_, Tryd.underlying112, sz_5⟩⟩
def ty_113 : Ty := ⟨(.strct [(0, 1, false), (1, 1, false), (2, 1, false), (3, 1, false)]), 4, true, [(.pointer none), (.pointer none), (.pointer none), (.string ByteArray.empty)]⟩
theorem ok_113 : ycc Tryd.prog 113 ty_113 := ⟨sz_113, yai (by kernel_rfl), (ycf Tryd.underlying113 ⟨⟨rfl, sz_17, by decide⟩, ⟨rfl, sz_17, by decide⟩, ⟨rfl, sz_17, by decide⟩, ⟨rfl, sz_9, by decide⟩, trivial⟩)⟩
def ty_114 : Ty := ⟨(.strct [(0, 1, false), (1, 1, false), (2, 1, false), (3, 1, false)]), 4, true, [(.pointer none), (.pointer none), (.pointer none), (.string ByteArray.empty)]⟩
theorem ok_114 : ycc Tryd.prog 114 ty_114 := ⟨sz_114, yai (by kernel_rfl), (ycf Tryd.underlying114 ⟨⟨rfl, sz_17, by decide⟩, ⟨rfl, sz_17, by decide⟩, ⟨rfl, sz_17, by decide⟩, ⟨rfl, sz_9, by decide⟩, trivial⟩)⟩
def ty_118 : Ty := ⟨(.int .u8), 1, false, [(.int .u8 0)]⟩
theorem ok_118 : ycc Tryd.prog 118 ty_118 := ⟨sz_118, yai (by kernel_rfl), Tryd.underlying118⟩
def ty_119 : Ty := ⟨(.int .u8), 1, false, [(.int .u8 0)]⟩
theorem ok_119 : ycc Tryd.prog 119 ty_119 := ⟨sz_119, yai (by kernel_rfl), Tryd.underlying119⟩
def ty_120 : Ty := ⟨.other, 1, false, [.nilFunc]⟩
theorem ok_120 : ycc Tryd.prog 120 ty_120 := ⟨sz_120, yai (by kernel_rfl), trivial⟩
def ty_121 : Ty := ⟨(.int .i32), 1, false, [(.int .i32 0)]⟩
theorem ok_121 : ycc Tryd.prog 121 ty_121 := ⟨sz_121, yai (by kernel_rfl), Tryd.underlying121⟩
def ty_122 : Ty := ⟨(.int .i32), 1, false, [(.int .i32 0)]⟩
theorem ok_122 : ycc Tryd.prog 122 ty_122 := ⟨sz_122, yai (by kernel_rfl), Tryd.underlying122⟩
def ty_123 : Ty := ⟨(.strct [(0, 1, false), (1, 1, false), (2, 1, false), (3, 1, false), (4, 1, false), (5, 1, false), (6, 1, false), (7, 1, false), (8, 1, false), (9, 1, false), (10, 1, false)]), 11, true, [(.int .u64 0), (.int .u64 0), (.int .u32 0), (.int .u8 0), (.int .u8 0), (.int .u8 0), (.int .u8 0), .nilFunc, (.pointer none), (.int .i32 0), (.int .i32 0)]⟩
theorem ok_123 : ycc Tryd.prog 123 ty_123 := ⟨sz_123, yai (by kernel_rfl), (ycf Tryd.underlying123 ⟨⟨rfl, sz_12, by decide⟩, ⟨rfl, sz_12, by decide⟩, ⟨rfl, sz_106, by decide⟩, ⟨rfl, sz_118, by decide⟩, ⟨rfl, sz_5, by decide⟩, ⟨rfl, sz_5, by decide⟩, ⟨rfl, sz_119, by decide⟩, ⟨rfl, sz_120, by decide⟩, ⟨rfl, sz_81, by decide⟩, ⟨rfl, sz_121, by decide⟩, ⟨rfl, sz_122, by decide⟩, trivial⟩)⟩
def ty_124 : Ty := ⟨(.strct [(0, 1, false), (1, 1, false), (2, 1, false), (3, 1, false), (4, 1, false), (5, 1, false), (6, 1, false), (7, 1, false), (8, 1, false), (9, 1, false), (10, 1, false)]), 11, true, [(.int .u64 0), (.int .u64 0), (.int .u32 0), (.int .u8 0), (.int .u8 0), (.int .u8 0), (.int .u8 0), .nilFunc, (.pointer none), (.int .i32 0), (.int .i32 0)]⟩
theorem ok_124 : ycc Tryd.prog 124 ty_124 := ⟨sz_124, yai (by kernel_rfl), (ycf Tryd.underlying124 ⟨⟨rfl, sz_12, by decide⟩, ⟨rfl, sz_12, by decide⟩, ⟨rfl, sz_106, by decide⟩, ⟨rfl, sz_118, by decide⟩, ⟨rfl, sz_5, by decide⟩, ⟨rfl, sz_5, by decide⟩, ⟨rfl, sz_119, by decide⟩, ⟨rfl, sz_120, by decide⟩, ⟨rfl, sz_81, by decide⟩, ⟨rfl, sz_121, by decide⟩, ⟨rfl, sz_122, by decide⟩, trivial⟩)⟩
def TT : Nat → Option Ty := tlook [(1, ty_1), (2, ty_2), (3, ty_3), (4, ty_4), (5, ty_5), (6, ty_6), (7, ty_7), (8, ty_8), (9, ty_9), (10, ty_10), (11, ty_11), (12, ty_12), (13, ty_13), (14, ty_14), (15, ty_15), (16, ty_16), (17, ty_17), (18, ty_18), (19, ty_19), (20, ty_20), (21, ty_21), (22, ty_22), (23, ty_23), (24, ty_24), (25, ty_25), (26, ty_26), (28, ty_28), (29, ty_29), (31, ty_31), (32, ty_32), (34, ty_34), (35, ty_35), (36, ty_36), (37, ty_37), (38, ty_38), (39, ty_39), (41, ty_41), (42, ty_42), (43, ty_43), (45, ty_45), (46, ty_46), (47, ty_47), (48, ty_48), (49, ty_49), (50, ty_50), (51, ty_51), (52, ty_52), (53, ty_53), (54, ty_54), (55, ty_55), (56, ty_56), (57, ty_57), (58, ty_58), (60, ty_60), (61, ty_61), (62, ty_62), (63, ty_63), (64, ty_64), (66, ty_66), (67, ty_67), (68, ty_68), (69, ty_69), (70, ty_70), (71, ty_71), (72, ty_72), (73, ty_73), (74, ty_74), (75, ty_75), (76, ty_76), (77, ty_77), (79, ty_79), (80, ty_80), (81, ty_81), (82, ty_82), (83, ty_83), (84, ty_84), (85, ty_85), (86, ty_86), (87, ty_87), (88, ty_88), (89, ty_89), (90, ty_90), (91, ty_91), (92, ty_92), (93, ty_93), (94, ty_94), (95, ty_95), (96, ty_96), (97, ty_97), (98, ty_98), (99, ty_99), (100, ty_100), (101, ty_101), (103, ty_103), (104, ty_104), (105, ty_105), (106, ty_106), (107, ty_107), (108, ty_108), (109, ty_109), (110, ty_110), (111, ty_111), (112, ty_112), (113, ty_113), (114, ty_114), (118, ty_118), (119, ty_119), (120, ty_120), (121, ty_121), (122, ty_122), (123, ty_123), (124, ty_124)]
theorem tok : TOK Tryd.prog TT := tok_of ⟨ok_1, ok_2, ok_3, ok_4, ok_5, ok_6, ok_7, ok_8, ok_9, ok_10, ok_11, ok_12, ok_13, ok_14, ok_15, ok_16, ok_17, ok_18, ok_19, ok_20, ok_21, ok_22, ok_23, ok_24, ok_25, ok_26, ok_28, ok_29, ok_31, ok_32, ok_34, ok_35, ok_36, ok_37, ok_38, ok_39, ok_41, ok_42, ok_43, ok_45, ok_46, ok_47, ok_48, ok_49, ok_50, ok_51, ok_52, ok_53, ok_54, ok_55, ok_56, ok_57, ok_58, ok_60, ok_61, ok_62, ok_63, ok_64, ok_66, ok_67, ok_68, ok_69, ok_70, ok_71, ok_72, ok_73, ok_74, ok_75, ok_76, ok_77, ok_79, ok_80, ok_81, ok_82, ok_83, ok_84, ok_85, ok_86, ok_87, ok_88, ok_89, ok_90, ok_91, ok_92, ok_93, ok_94, ok_95, ok_96, ok_97, ok_98, ok_99, ok_100, ok_101, ok_103, ok_104, ok_105, ok_106, ok_107, ok_108, ok_109, ok_110, ok_111, ok_112, ok_113, ok_114, ok_118, ok_119, ok_120, ok_121, ok_122, ok_123, ok_124, trivial⟩
theorem mixed : Tryd.prog.follows .mixedOrders = true := by kernel_rfl
end Go.Proofs.YtcpgpiabeimefaaDoor
