/- Typed blocks, and bytes of a string appended. No program. -/
import Derived.Test.YtkjcjenkepejgaaDoorSymU
import Derived.Lib.AppendStr
set_option linter.unusedVariables false
namespace Go.Proofs.YtkjcjenkepejgaaDoor
open Go.RowKit
def bytesA (l : List UInt8) : List AV := l.map fun b => .v (.int .u8 b.toNat)
theorem bytesA_app (a b : List UInt8) : bytesA (a ++ b) = bytesA a ++ bytesA b := by simp [bytesA]
theorem bytesA_len (l : List UInt8) : (bytesA l).length = l.length := by simp [bytesA]
theorem bytesA_pure (l : List UInt8) : ∀ c ∈ bytesA l, pureA c = true := by
  intro c hc; obtain ⟨b, _, rfl⟩ := List.mem_map.1 hc; rfl
theorem bytesA_cell (l : List UInt8) : ∀ c ∈ bytesA l, cellA c = true := by
  intro c hc; obtain ⟨b, _, rfl⟩ := List.mem_map.1 hc; rfl
theorem bytesA_rel {ok : Nat → Prop} {w : World} {lv : Live} (l : List UInt8) : RelAll ok w lv (bytesA l) (l.map fun b => Value.int .u8 b.toNat) := by
  refine ⟨by simp [bytesA], fun i x u hx hu => ?_⟩
  simp only [bytesA, List.getElem?_map, Option.map_eq_some_iff] at hx hu
  obtain ⟨a, ha, rfl⟩ := hx
  obtain ⟨b, hb, rfl⟩ := hu
  rw [ha] at hb; cases hb
  exact .v _
theorem shape_alloc {w : World} {c : Array Value} {e : TypeId} : (w.alloc (.cells c e)).shape? w.heap.size = some (e, c.size) := by
  have h : (w.alloc (.cells c e)).heap[w.heap.size]? = some (.cells c e) := by show (w.heap.push _)[w.heap.size]? = _; simp
  simp only [World.shape?, h]
theorem own_nil {B : Bse} {ok : Nat → Prop} {lv : Live} {w : World} {n : Nat} {e : TypeId} {xs : List AV} (h : OwnAt B ok lv w n (.tvec e xs) none) : xs = [] := by
  rcases h with h | ⟨e', h⟩
  · cases h
  · cases h; rfl
section
variable {P : Program} {T : Nat → Option Ty} {N : Nat} {ty : TypeId}
theorem appendS_world {B : Bse} {ok0 : Nat → Prop} {s : SS} {lv : Live} {a : Act} {w : World} (hs : Sim B ok0 N s lv a w) {ti tj e es eb : Nat} {ea : Bool} {ez : List Value} (hk : KindOK P ti (.slc e es ea eb ez)) (hes : es = 1) (hj0 : KindOK P tj .string) {id len m : Nat} {xs cs : List AV} {v : Value} {s0 : ByteArray} {news : List Value} (hmv : m = s0.size) (hcv : cs = bytesA s0.data.toList) (hnv : news = Lib.strCells s0) (hid : s.h id = some (.tvec e xs)) (hxl : xs.length = len * es)
    (hv : Rel (okOf B ok0 lv w) w lv (.ls id es len) v) (hlim : len + m ≤ 4294967296 ∧ (len + m) * eb ≤ 140737488355328)
    {s' : SS} (ht : ∀ x y, s'.t x = some y → y = .any ∨ (s.t x = some y ∧ ment id y = false)) (hlt : ∀ x y, s'.t x = some y → ∃ z, s.t x = some z) (hh : ∀ j ob', j ≠ id → s'.h j = some ob' → mentO id ob' = false ∧ ∃ ob, s.h j = some ob ∧ ForgO ob ob') (hid' : s'.h id = some (.tvec e (xs ++ cs))) :
    ∃ v' w' lv', (Builtin.append_ #[ti, tj] ty #[v, .string s0]).run P w = .ok v' w' ∧ Sim B ok0 N s' lv' a w' ∧ Rel (okOf B ok0 lv' w') w' lv' (.ls id es (len + m)) v' := by
  have hcc : ∀ c ∈ cs, cellA c = true := by rw [hcv]; exact bytesA_cell _
  have hcp : ∀ c ∈ cs, pureA c = true := by rw [hcv]; exact bytesA_pure _
  have hnl : news.length = m * es := by rw [hnv, Lib.strCells_length, hmv, hes, Nat.mul_one]
  have hnr : RelAll (okOf B ok0 lv w) w (fun _ => none) cs news := by rw [hcv, hnv]; exact bytesA_rel _
  obtain ⟨hu, hsz, hby, hz, hzl, hpos⟩ := hk
  obtain ⟨i, hi, hisz, hiby, zv, hiz, hizc⟩ : ∃ i, P.info? e = some i ∧ i.size = es ∧ i.bytes = eb ∧ ∃ zv, i.zero = some zv ∧ zv.cells = ez.toArray := by
    cases hi : P.info? e with
    | none => simp [hi] at hby
    | some i =>
      have h1 := hsz.1
      unfold ZeroOK at hz
      simp only [hi, Option.map_some, Option.some.injEq] at hby h1 hz
      cases hzz : i.zero with
      | none => simp [hzz] at hz
      | some zv => simp only [hzz, Option.map_some, Option.some.injEq] at hz; exact ⟨i, rfl, h1, hby, zv, hzz, hz⟩
  have hcl : cs.length = m * es := by rw [← hnr.1, hnl]
  -- the state with the block written in place, or the same, forgets
  have forget : ∀ (w' : World) (lv1 : Live), Sim B ok0 N ⟨s.t, hupd s.h id (some (.tvec e (xs ++ cs)))⟩ lv1 a w' → ∃ lv', Sim B ok0 N s' lv' a w' ∧ lv' id = lv1 id := by
    intro w' lv1 h1
    obtain ⟨lv', g1, g2, g3, g4⟩ := h1.forg (s' := s') (fun x y hy => (ht x y hy).imp (fun h => h) And.left) hlt (fun j ob' hj => by
      by_cases hji : j = id
      · subst hji
        rw [hid'] at hj
        cases hj
        exact ⟨.tvec e (xs ++ cs), by simp [hupd], .inl rfl⟩
      · obtain ⟨_, ob, q1, q2⟩ := hh j ob' hji hj
        exact ⟨ob, by simp [hupd, hji, q1], q2⟩)
    exact ⟨lv', g1, g3 id (by simp [hid'])⟩
  obtain ⟨bo, n, hl, hown⟩ := hs.inv.obj id _ hid
  cases hv with
  | ls _ hone hls =>
    have hlsv := hls bo n hl
    have grown : ∀ (old : Nat) (olds : List Value), RelAll (okOf B ok0 lv w) w lv xs olds → old < len + m →
        let cap := grownCap w (len + m) old e
        let w' := w.drew.alloc (.cells (olds.toArray ++ news.toArray ++ Builtin.zeroCells zv.cells (cap - (len + m))) e)
        ∃ lv', Sim B ok0 N s' lv' a w' ∧ Rel (okOf B ok0 lv' w') w' lv' (.ls id es (len + m)) (.slice (some ⟨w.heap.size, 0, none⟩) (len + m) cap) := by
      intro old olds hor hold
      have hge := grownCap_ge w (len + m) old e
      have hmx : grownCap w (len + m) old e ≤ maxLen := grownCap_le_maxLen w (len + m) old e (by unfold maxLen; omega)
      intro cap w'
      -- first forget, id given up
      obtain ⟨lv0, q1, q2, q3, q4⟩ := hs.forg (s' := ⟨s'.t, fun j => if j = id then none else s'.h j⟩) (fun x y hy => (ht x y hy).imp (fun h => h) And.left) hlt (fun j ob' hj => by
        simp only at hj
        split at hj
        · cases hj
        · rename_i hji; exact (hh j ob' hji hj).2)
      have q0 : Sim B ok0 N ⟨s'.t, fun j => if j = id then none else s'.h j⟩ lv0 a w.drew := q1.drew (Below.drew (Below.refl _ _))
      have hall : RelAll (okOf B ok0 lv0 w.drew) w.drew lv0 (xs ++ cs) (olds ++ news) := by
        refine ⟨by simp [hor.1, hnr.1], fun j x u hx hu => ?_⟩
        have hpu := (show ObjAt (okOf B ok0 lv w) lv w (bo.getD 0) n (.tvec e xs) ∨ xs = [] by
          cases bo with
          | none => exact .inr (own_nil hown)
          | some b => exact .inl hown.2.2)
        have hpx : ∀ x ∈ xs, pureA x = true := by
          rcases hpu with h | h
          · exact h.2.1
          · intro x hx; rw [h] at hx; cases hx
        rcases Nat.lt_or_ge j xs.length with h1 | h1
        · rw [List.getElem?_append_left h1] at hx
          rw [List.getElem?_append_left (by rw [hor.1]; exact h1)] at hu
          exact ((hor.2 j x u hx hu).relive fun id b n hb hmm => by rw [pureA.ment (hpx x (List.mem_of_getElem? hx))] at hmm; cases hmm).keep fun g hg => ⟨q4 g hg, rfl⟩
        · rw [List.getElem?_append_right h1] at hx
          rw [List.getElem?_append_right (by rw [hor.1]; exact h1), hor.1] at hu
          exact ((hnr.2 _ x u hx hu).relive fun id b n hb hmm => by rw [pureA.ment (hcp x (List.mem_of_getElem? hx))] at hmm; cases hmm).keep fun g hg => ⟨q4 g hg, rfl⟩
      have hcell' : ∀ x ∈ xs ++ cs, cellA x = true := by
        intro x hx
        rcases List.mem_append.1 hx with hx | hx
        · cases bo with
          | none => rw [own_nil hown] at hx; cases hx
          | some b => obtain ⟨_, _, ⟨c, _, _, _, _, g4, _⟩, _⟩ := hown; exact g4 x hx
        · exact hcc x hx
      have hpure' : ∀ x ∈ xs ++ cs, pureA x = true := by
        intro x hx
        rcases List.mem_append.1 hx with hx | hx
        · cases bo with
          | none => rw [own_nil hown] at hx; cases hx
          | some b => exact hown.2.2.2.1 x hx
        · exact hcp x hx
      have hfr : Fresh (⟨s'.t, fun j => if j = id then none else s'.h j⟩ : SS) id := by
        refine ⟨by simp, fun x y hy => ?_, fun j ob hj => ?_⟩
        · rcases ht x y hy with rfl | ⟨_, hm⟩
          · rfl
          · exact hm
        · simp only at hj
          split at hj
          · cases hj
          · rename_i hji; exact (hh j ob hji hj).1
      have hzc : (olds ++ news).length + (Builtin.zeroCells zv.cells (cap - (len + m))).toList.length = cap * es := by
        have e1 := size_zeroCells zv.cells (cap - (len + m))
        rw [hizc] at e1
        simp only [List.size_toArray, hzl] at e1
        rw [hizc]
        simp only [Array.length_toList, List.length_append, e1, hor.1, hxl, hnl]
        rw [← Nat.add_mul, ← Nat.add_mul]
        congr 1
        omega
      have hw' : w' = w.drew.alloc (.cells ((olds ++ news) ++ (Builtin.zeroCells zv.cells (cap - (len + m))).toList).toArray e) := by
        simp only [w']
        congr 2
        simp
      have hnew := q0.newBlock (ob := .tvec e (xs ++ cs)) (n := cap * es) hfr (w' := w') (by rw [hw']; exact below_alloc w.drew _) (by rw [hw']; simp) rfl (fun h => by cases h)
        (fun ok' lv' g1 g2 => ⟨blk_new (e := e) hzc.symm (by rw [hw']; exact heap_alloc_eq w.drew _) hall hcell' ok' lv' g1 (fun i b mm hb hmm => by
          obtain ⟨c, hc, hcm⟩ : ∃ c ∈ xs ++ cs, ment i c = true := by
            generalize xs ++ cs = l at hmm
            induction l with
            | nil => simp [ment.mentL] at hmm
            | cons a l ih =>
              simp only [ment.mentL, Bool.or_eq_true] at hmm
              rcases hmm with h | h
              · exact ⟨a, by simp, h⟩
              · obtain ⟨c, h1, h2⟩ := ih h; exact ⟨c, by simp [h1], h2⟩
          rw [pureA.ment (hpure' c hc)] at hcm; cases hcm), hpure', by rw [hw', shape_alloc]; congr 2; simp only [List.size_toArray, List.length_append] at hzc ⊢; omega⟩)
      have hs'' : (⟨s'.t, hupd (fun j => if j = id then none else s'.h j) id (some (.tvec e (xs ++ cs)))⟩ : SS) = s' := by
        have : hupd (fun j => if j = id then none else s'.h j) id (some (.tvec e (xs ++ cs))) = s'.h := by
          funext j
          by_cases hj : j = id
          · subst hj; simp [hupd, hid']
          · simp [hupd, hj]
        rw [this]
      rw [hs''] at hnew
      refine ⟨_, hnew, .ls _ rfl fun b n' hb => ?_⟩
      simp only [setLv, if_true, Option.some.injEq, Prod.mk.injEq] at hb
      obtain ⟨rfl, rfl⟩ := hb
      exact ⟨cap, rfl, hge, hmx, rfl⟩
    cases bo with
    | none =>
      obtain rfl := own_nil hown
      obtain ⟨rfl, rfl⟩ := hlsv
      by_cases hm : s0.size = 0
      · have hf := Lib.run_firstCells_string (P := P) w 1 s0
        rw [hm] at hf
        have hcs : cs = [] := List.eq_nil_of_length_eq_zero (by rw [hcl, hmv, hm]; simp)
        have hsame : (⟨s.t, hupd s.h id (some (.tvec e ([] ++ cs)))⟩ : SS) = s := by
          have : hupd s.h id (some (.tvec e ([] ++ cs))) = s.h := by
            funext j
            by_cases hj : j = id
            · subst hj; simp [hupd, hid, hcs]
            · simp [hupd, hj]
          rw [this]
        obtain ⟨lv', q1, q2⟩ := forget w lv (by rw [hsame]; exact hs)
        refine ⟨.slice none 0 0, w, lv', ?_, q1, .ls _ rfl fun b n' hb => ?_⟩
        · simp [Builtin.append_, run_underlying hu, run_underlying hj0, sizeOf, typeInfo, hi, hisz, hes, Builtin.lenOf, hm, hf]
        · rw [q2, hl] at hb; cases hb; exact ⟨rfl, by omega⟩
      · have hr := run_append_nil_string (P := P) w ti tj ty e i zv hu hj0 hi hiz s0 (by omega) (by omega) (by have := hlim.2; rw [hiby]; simp only [Nat.zero_add] at this; rw [← hmv]; omega)
        obtain ⟨lv', g1, g2⟩ := grown 0 [] ⟨rfl, fun i x u h => by simp at h⟩ (by omega)
        have e1 : (s0.data.map fun b => Value.int .u8 b.toNat) = news.toArray := by
          rw [hnv]
          apply Array.ext'
          simp [Lib.strCells]
        rw [e1] at hr
        subst hmv
        simp only [Nat.zero_add, Array.empty_append] at hr g1 g2 ⊢
        exact ⟨_, _, lv', hr, g1, g2⟩
    | some b =>
      obtain ⟨cap, rfl, hlc, hmx, hcn⟩ := hlsv
      obtain ⟨hb1, hb2, ⟨cu, e', g1, g2, g3, g4, g5⟩, hpu, hsh⟩ := hown
      obtain rfl : e' = e := by simp only [World.shape?, g1, Option.some.injEq, Prod.mk.injEq] at hsh; exact hsh.1
      subst hes
      by_cases hroom : len + m ≤ cap
      · have hfit : len * 1 + news.length ≤ cu.size := by rw [hnl, g2, ← hcn, ← Nat.add_mul]; exact Nat.mul_le_mul_right _ hroom
        have hr := Lib.run_append_room_string (P := P) w ti tj ty e' i hu hj0 hi hisz b len cap cu g1 s0 (by rw [← hmv]; exact hroom) (by rw [hnl] at hfit; omega)
        have hwe : (cu.toList.take len ++ Lib.strCells s0 ++ cu.toList.drop (len + s0.size)).toArray = (cu.toList.take (len * 1) ++ news ++ cu.toList.drop (len * 1 + news.length)).toArray := by
          rw [hnl, Nat.mul_one, Nat.mul_one, ← hnv, ← hmv]
        rw [hwe, ← hmv] at hr
        have hwr := hs.write (w' := w.setRow b (cu.toList.take (len * 1) ++ news ++ cu.toList.drop (len * 1 + news.length)).toArray) hl rfl rfl rfl (by simp) (fun g hg => setRow_other w b g _ hg) (ob := .tvec e' (xs ++ cs)) (fun h => by cases h)
          (fun ok' hk => ⟨blk_app (w := w) g2 hxl g4 g5 hnr hcc hcp (by omega) (setRow_heap w b cu _ e' _ g1) ok' hk, fun x hx => by
            rcases List.mem_append.1 hx with hx | hx
            · exact hpu x hx
            · exact hcp x hx, by
            simp only [World.shape?, setRow_heap w b cu _ e' _ g1]
            congr 2
            rw [← g2]
            simp; omega⟩)
        obtain ⟨lv', q1, q2⟩ := forget _ _ hwr
        refine ⟨_, _, lv', hr, q1, .ls _ rfl fun b' n' hb => ?_⟩
        rw [q2, hl] at hb; cases hb; exact ⟨cap, rfl, hroom, hmx, hcn⟩
      · have hxle : xs.length ≤ cu.size := by omega
        have hor : RelAll (okOf B ok0 lv w) w lv xs (cu.toList.take xs.length) := ⟨by simp; omega, fun j x u hx hu => by
          have hlt := (List.getElem?_eq_some_iff.1 hx).1
          rw [List.getElem?_take, if_pos hlt] at hu
          exact g5 j x u hx (by simpa using hu)⟩
        have hr := Lib.run_append_grow_string (P := P) w ti tj ty e' i zv hu hj0 hi hiz ⟨b, 0, none⟩ len cap (cu.toList.take xs.length) (by simp [hisz]; omega) (fun j v hj => by
          rw [List.getElem?_take] at hj
          split at hj
          · rw [addr_add]; simp only [World.cell?, g1, Nat.zero_add]; simpa using hj
          · cases hj) s0 (by omega) (by omega) (by rw [hiby, ← hmv]; exact growslice_fits (by omega) hlim.2)
        obtain ⟨lv', q1, q2⟩ := grown cap _ hor (by omega)
        subst hmv hnv
        exact ⟨_, _, lv', hr, q1, q2⟩
end
end Go.Proofs.YtkjcjenkepejgaaDoor
