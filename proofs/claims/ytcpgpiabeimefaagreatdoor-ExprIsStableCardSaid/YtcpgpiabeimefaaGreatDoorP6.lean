/- Part 6 of the texts under ExprParses,ExprIsStable,ExprReadsBack,ExprIgnoresBrackets: joined, with what it needs alone. -/
import Derived.Lib.AppendStr
import Derived.Lib.UnsafeStr
import Derived.Lib.Builder
import Derived.Laws.Externs
import Derived.Laws.Pointers
import Derived.LaidEqlPtr
import Derived.Test.YtcpgpiabeimefaaGreatDoorP5
set_option linter.unusedVariables false
namespace Go.Proofs.YtcpgpiabeimefaaGreatDoor
open Go.RowKit
def ydu (l : List UInt8) : List AV := l.map fun b => .v (.int .u8 b.toNat)
theorem bytesA_app (a b : List UInt8) : ydu (a ++ b) = ydu a ++ ydu b := by simp [ydu]
theorem bytesA_len (l : List UInt8) : (ydu l).length = l.length := by simp [ydu]
theorem bytesA_pure (l : List UInt8) : ∀ c ∈ ydu l, ybw c = true := by
  intro c hc; obtain ⟨b, _, rfl⟩ := List.mem_map.1 hc; rfl
theorem bytesA_cell (l : List UInt8) : ∀ c ∈ ydu l, yef c = true := by
  intro c hc; obtain ⟨b, _, rfl⟩ := List.mem_map.1 hc; rfl
theorem bytesA_rel {ok : Nat → Prop} {w : World} {lv : Live} (l : List UInt8) : ycd ok w lv (ydu l) (l.map fun b => Value.int .u8 b.toNat) := by
  refine ⟨by simp [ydu], fun i x u hx hu => ?_⟩
  simp only [ydu, List.getElem?_map, Option.map_eq_some_iff] at hx hu
  obtain ⟨a, ha, rfl⟩ := hx
  obtain ⟨b, hb, rfl⟩ := hu
  rw [ha] at hb; cases hb
  exact .v _
theorem shape_alloc {w : World} {c : Array Value} {e : TypeId} : (w.alloc (.cells c e)).shape? w.heap.size = some (e, c.size) := by
  have h : (w.alloc (.cells c e)).heap[w.heap.size]? = some (.cells c e) := by show (w.heap.push _)[w.heap.size]? = _; simp
  simp only [World.shape?, h]
theorem own_nil {B : Bse} {ok : Nat → Prop} {lv : Live} {w : World} {n : Nat} {e : TypeId} {xs : List AV} (h : OwnAt B ok lv w n (.tvec e xs) none) : xs = [] := by
  rcases h with h | ⟨e', h⟩
  · cases h
  · cases h; rfl
section
variable {P : Program} {T : Nat → Option Ty} {N : Nat} {ty : TypeId}
theorem appendS_world {B : Bse} {ok0 : Nat → Prop} {s : SS} {lv : Live} {a : Act} {w : World} (hs : Sim B ok0 N s lv a w) {ti tj e es eb : Nat} {ea : Bool} {ez : List Value} (hk : yfk P ti (.slc e es ea eb ez)) (hes : es = 1) (hj0 : yfk P tj .string) {id len m : Nat} {xs cs : List AV} {v : Value} {s0 : ByteArray} {news : List Value} (hmv : m = s0.size) (hcv : cs = ydu s0.data.toList) (hnv : news = Lib.strCells s0) (hid : s.h id = some (.tvec e xs)) (hxl : xs.length = len * es)
    (hv : Rel (ybq B ok0 lv w) w lv (.ls id es len) v) (hlim : len + m ≤ 4294967296 ∧ (len + m) * eb ≤ 140737488355328)
    {s' : SS} (ht : ∀ x y, s'.t x = some y → y = .any ∨ (s.t x = some y ∧ ment id y = false)) (hlt : ∀ x y, s'.t x = some y → ∃ z, s.t x = some z) (hh : ∀ j ob', j ≠ id → s'.h j = some ob' → mentO id ob' = false ∧ ∃ ob, s.h j = some ob ∧ ForgO ob ob') (hid' : s'.h id = some (.tvec e (xs ++ cs))) :
    ∃ v' w' lv', (Builtin.append_ #[ti, tj] ty #[v, .string s0]).run P w = .ok v' w' ∧ Sim B ok0 N s' lv' a w' ∧ Rel (ybq B ok0 lv' w') w' lv' (.ls id es (len + m)) v' := by
  have hcc : ∀ c ∈ cs, yef c = true := by rw [hcv]; exact bytesA_cell _
  have hcp : ∀ c ∈ cs, ybw c = true := by rw [hcv]; exact bytesA_pure _
  have hnl : news.length = m * es := by rw [hnv, Lib.strCells_length, hmv, hes, Nat.mul_one]
  have hnr : ycd (ybq B ok0 lv w) w (fun _ => none) cs news := by rw [hcv, hnv]; exact bytesA_rel _
  obtain ⟨hu, hsz, hby, hz, hzl, hpos⟩ := hk
  obtain ⟨i, hi, hisz, hiby, zv, hiz, hizc⟩ : ∃ i, P.info? e = some i ∧ i.size = es ∧ i.bytes = eb ∧ ∃ zv, i.zero = some zv ∧ zv.cells = ez.toArray := by
    cases hi : P.info? e with
    | none => simp [hi] at hby
    | some i =>
      have h1 := hsz.1
      unfold ZeroOK at hz
      simp only [hi, Option.map_some, Option.some.injEq] at hby h1 hz
      cases hzz : i.zero with
      | none => simp [hzz] at hz
      | some zv => simp only [hzz, Option.map_some, Option.some.injEq] at hz; exact ⟨i, rfl, h1, hby, zv, hzz, hz⟩
  have hcl : cs.length = m * es := by rw [← hnr.1, hnl]
  -- the state with the block written in place, or the same, forgets
  have forget : ∀ (w' : World) (lv1 : Live), Sim B ok0 N ⟨s.t, yeo s.h id (some (.tvec e (xs ++ cs)))⟩ lv1 a w' → ∃ lv', Sim B ok0 N s' lv' a w' ∧ lv' id = lv1 id := by
    intro w' lv1 h1
    obtain ⟨lv', g1, g2, g3, g4⟩ := h1.forg (s' := s') (fun x y hy => (ht x y hy).imp (fun h => h) And.left) hlt (fun j ob' hj => by
      by_cases hji : j = id
      · subst hji
        rw [hid'] at hj
        cases hj
        exact ⟨.tvec e (xs ++ cs), by simp [yeo], .inl rfl⟩
      · obtain ⟨_, ob, q1, q2⟩ := hh j ob' hji hj
        exact ⟨ob, by simp [yeo, hji, q1], q2⟩)
    exact ⟨lv', g1, g3 id (by simp [hid'])⟩
  obtain ⟨bo, n, hl, hown⟩ := hs.inv.obj id _ hid
  cases hv with
  | ls _ hone hls =>
    have hlsv := hls bo n hl
    have grown : ∀ (old : Nat) (olds : List Value), ycd (ybq B ok0 lv w) w lv xs olds → old < len + m →
        let cap := grownCap w (len + m) old e
        let w' := w.drew.alloc (.cells (olds.toArray ++ news.toArray ++ Builtin.zeroCells zv.cells (cap - (len + m))) e)
        ∃ lv', Sim B ok0 N s' lv' a w' ∧ Rel (ybq B ok0 lv' w') w' lv' (.ls id es (len + m)) (.slice (some ⟨w.heap.size, 0, none⟩) (len + m) cap) := by
      intro old olds hor hold
      have hge := grownCap_ge w (len + m) old e
      have hmx : grownCap w (len + m) old e ≤ maxLen := grownCap_le_maxLen w (len + m) old e (by unfold maxLen; omega)
      intro cap w'
      -- first forget, id given up
      obtain ⟨lv0, q1, q2, q3, q4⟩ := hs.forg (s' := ⟨s'.t, fun j => if j = id then none else s'.h j⟩) (fun x y hy => (ht x y hy).imp (fun h => h) And.left) hlt (fun j ob' hj => by
        simp only at hj
        split at hj
        · cases hj
        · rename_i hji; exact (hh j ob' hji hj).2)
      have q0 : Sim B ok0 N ⟨s'.t, fun j => if j = id then none else s'.h j⟩ lv0 a w.drew := q1.drew (Below.drew (Below.refl _ _))
      have hall : ycd (ybq B ok0 lv0 w.drew) w.drew lv0 (xs ++ cs) (olds ++ news) := by
        refine ⟨by simp [hor.1, hnr.1], fun j x u hx hu => ?_⟩
        have hpu := (show yfl (ybq B ok0 lv w) lv w (bo.getD 0) n (.tvec e xs) ∨ xs = [] by
          cases bo with
          | none => exact .inr (own_nil hown)
          | some b => exact .inl hown.2.2)
        have hpx : ∀ x ∈ xs, ybw x = true := by
          rcases hpu with h | h
          · exact h.2.1
          · intro x hx; rw [h] at hx; cases hx
        rcases Nat.lt_or_ge j xs.length with h1 | h1
        · rw [List.getElem?_append_left h1] at hx
          rw [List.getElem?_append_left (by rw [hor.1]; exact h1)] at hu
          exact ((hor.2 j x u hx hu).relive fun id b n hb hmm => by rw [ybw.ment (hpx x (List.mem_of_getElem? hx))] at hmm; cases hmm).keep fun g hg => ⟨q4 g hg, rfl⟩
        · rw [List.getElem?_append_right h1] at hx
          rw [List.getElem?_append_right (by rw [hor.1]; exact h1), hor.1] at hu
          exact ((hnr.2 _ x u hx hu).relive fun id b n hb hmm => by rw [ybw.ment (hcp x (List.mem_of_getElem? hx))] at hmm; cases hmm).keep fun g hg => ⟨q4 g hg, rfl⟩
      have hcell' : ∀ x ∈ xs ++ cs, yef x = true := by
        intro x hx
        rcases List.mem_append.1 hx with hx | hx
        · cases bo with
          | none => rw [own_nil hown] at hx; cases hx
          | some b => obtain ⟨_, _, ⟨c, _, _, _, _, g4, _⟩, _⟩ := hown; exact g4 x hx
        · exact hcc x hx
      have hpure' : ∀ x ∈ xs ++ cs, ybw x = true := by
        intro x hx
        rcases List.mem_append.1 hx with hx | hx
        · cases bo with
          | none => rw [own_nil hown] at hx; cases hx
          | some b => exact hown.2.2.2.1 x hx
        · exact hcp x hx
      have hfr : Fresh (⟨s'.t, fun j => if j = id then none else s'.h j⟩ : SS) id := by
        refine ⟨by simp, fun x y hy => ?_, fun j ob hj => ?_⟩
        · rcases ht x y hy with rfl | ⟨_, hm⟩
          · rfl
          · exact hm
        · simp only at hj
          split at hj
          · cases hj
          · rename_i hji; exact (hh j ob hji hj).1
      have hzc : (olds ++ news).length + (Builtin.zeroCells zv.cells (cap - (len + m))).toList.length = cap * es := by
        have e1 := size_zeroCells zv.cells (cap - (len + m))
        rw [hizc] at e1
        simp only [List.size_toArray, hzl] at e1
        rw [hizc]
        simp only [Array.length_toList, List.length_append, e1, hor.1, hxl, hnl]
        rw [← Nat.add_mul, ← Nat.add_mul]
        congr 1
        omega
      have hw' : w' = w.drew.alloc (.cells ((olds ++ news) ++ (Builtin.zeroCells zv.cells (cap - (len + m))).toList).toArray e) := by
        simp only [w']
        congr 2
        simp
      have hnew := q0.newBlock (ob := .tvec e (xs ++ cs)) (n := cap * es) hfr (w' := w') (by rw [hw']; exact yeg w.drew _) (by rw [hw']; simp) rfl (fun h => by cases h)
        (fun ok' lv' g1 g2 => ⟨blk_new (e := e) hzc.symm (by rw [hw']; exact heap_alloc_eq w.drew _) hall hcell' ok' lv' g1 (fun i b mm hb hmm => by
          obtain ⟨c, hc, hcm⟩ : ∃ c ∈ xs ++ cs, ment i c = true := by
            generalize xs ++ cs = l at hmm
            induction l with
            | nil => simp [ment.mentL] at hmm
            | cons a l ih =>
              simp only [ment.mentL, Bool.or_eq_true] at hmm
              rcases hmm with h | h
              · exact ⟨a, by simp, h⟩
              · obtain ⟨c, h1, h2⟩ := ih h; exact ⟨c, by simp [h1], h2⟩
          rw [ybw.ment (hpure' c hc)] at hcm; cases hcm), hpure', by rw [hw', shape_alloc]; congr 2; simp only [List.size_toArray, List.length_append] at hzc ⊢; omega⟩)
      have hs'' : (⟨s'.t, yeo (fun j => if j = id then none else s'.h j) id (some (.tvec e (xs ++ cs)))⟩ : SS) = s' := by
        have : yeo (fun j => if j = id then none else s'.h j) id (some (.tvec e (xs ++ cs))) = s'.h := by
          funext j
          by_cases hj : j = id
          · subst hj; simp [yeo, hid']
          · simp [yeo, hj]
        rw [this]
      rw [hs''] at hnew
      refine ⟨_, hnew, .ls _ rfl fun b n' hb => ?_⟩
      simp only [setLv, if_true, Option.some.injEq, Prod.mk.injEq] at hb
      obtain ⟨rfl, rfl⟩ := hb
      exact ⟨cap, rfl, hge, hmx, rfl⟩
    cases bo with
    | none =>
      obtain rfl := own_nil hown
      obtain ⟨rfl, rfl⟩ := hlsv
      by_cases hm : s0.size = 0
      · have hf := Lib.run_firstCells_string (P := P) w 1 s0
        rw [hm] at hf
        have hcs : cs = [] := List.eq_nil_of_length_eq_zero (by rw [hcl, hmv, hm]; simp)
        have hsame : (⟨s.t, yeo s.h id (some (.tvec e ([] ++ cs)))⟩ : SS) = s := by
          have : yeo s.h id (some (.tvec e ([] ++ cs))) = s.h := by
            funext j
            by_cases hj : j = id
            · subst hj; simp [yeo, hid, hcs]
            · simp [yeo, hj]
          rw [this]
        obtain ⟨lv', q1, q2⟩ := forget w lv (by rw [hsame]; exact hs)
        refine ⟨.slice none 0 0, w, lv', ?_, q1, .ls _ rfl fun b n' hb => ?_⟩
        · simp [Builtin.append_, run_underlying hu, run_underlying hj0, sizeOf, typeInfo, hi, hisz, hes, Builtin.lenOf, hm, hf]
        · rw [q2, hl] at hb; cases hb; exact ⟨rfl, by omega⟩
      · have hr := run_append_nil_string (P := P) w ti tj ty e i zv hu hj0 hi hiz s0 (by omega) (by omega) (by have := hlim.2; rw [hiby]; simp only [Nat.zero_add] at this; rw [← hmv]; omega)
        obtain ⟨lv', g1, g2⟩ := grown 0 [] ⟨rfl, fun i x u h => by simp at h⟩ (by omega)
        have e1 : (s0.data.map fun b => Value.int .u8 b.toNat) = news.toArray := by
          rw [hnv]
          apply Array.ext'
          simp [Lib.strCells]
        rw [e1] at hr
        subst hmv
        simp only [Nat.zero_add, Array.empty_append] at hr g1 g2 ⊢
        exact ⟨_, _, lv', hr, g1, g2⟩
    | some b =>
      obtain ⟨cap, rfl, hlc, hmx, hcn⟩ := hlsv
      obtain ⟨hb1, hb2, ⟨cu, e', g1, g2, g3, g4, g5⟩, hpu, hsh⟩ := hown
      obtain rfl : e' = e := by simp only [World.shape?, g1, Option.some.injEq, Prod.mk.injEq] at hsh; exact hsh.1
      subst hes
      by_cases hroom : len + m ≤ cap
      · have hfit : len * 1 + news.length ≤ cu.size := by rw [hnl, g2, ← hcn, ← Nat.add_mul]; exact Nat.mul_le_mul_right _ hroom
        have hr := Lib.run_append_room_string (P := P) w ti tj ty e' i hu hj0 hi hisz b len cap cu g1 s0 (by rw [← hmv]; exact hroom) (by rw [hnl] at hfit; omega)
        have hwe : (cu.toList.take len ++ Lib.strCells s0 ++ cu.toList.drop (len + s0.size)).toArray = (cu.toList.take (len * 1) ++ news ++ cu.toList.drop (len * 1 + news.length)).toArray := by
          rw [hnl, Nat.mul_one, Nat.mul_one, ← hnv, ← hmv]
        rw [hwe, ← hmv] at hr
        have hwr := hs.write (w' := w.setRow b (cu.toList.take (len * 1) ++ news ++ cu.toList.drop (len * 1 + news.length)).toArray) hl rfl rfl rfl (by simp) (fun g hg => setRow_other w b g _ hg) (ob := .tvec e' (xs ++ cs)) (fun h => by cases h)
          (fun ok' hk => ⟨blk_app (w := w) g2 hxl g4 g5 hnr hcc hcp (by omega) (setRow_heap w b cu _ e' _ g1) ok' hk, fun x hx => by
            rcases List.mem_append.1 hx with hx | hx
            · exact hpu x hx
            · exact hcp x hx, by
            simp only [World.shape?, setRow_heap w b cu _ e' _ g1]
            congr 2
            rw [← g2]
            simp; omega⟩)
        obtain ⟨lv', q1, q2⟩ := forget _ _ hwr
        refine ⟨_, _, lv', hr, q1, .ls _ rfl fun b' n' hb => ?_⟩
        rw [q2, hl] at hb; cases hb; exact ⟨cap, rfl, hroom, hmx, hcn⟩
      · have hxle : xs.length ≤ cu.size := by omega
        have hor : ycd (ybq B ok0 lv w) w lv xs (cu.toList.take xs.length) := ⟨by simp; omega, fun j x u hx hu => by
          have hlt := (List.getElem?_eq_some_iff.1 hx).1
          rw [List.getElem?_take, if_pos hlt] at hu
          exact g5 j x u hx (by simpa using hu)⟩
        have hr := Lib.run_append_grow_string (P := P) w ti tj ty e' i zv hu hj0 hi hiz ⟨b, 0, none⟩ len cap (cu.toList.take xs.length) (by simp [hisz]; omega) (fun j v hj => by
          rw [List.getElem?_take] at hj
          split at hj
          · rw [addr_add]; simp only [World.cell?, g1, Nat.zero_add]; simpa using hj
          · cases hj) s0 (by omega) (by omega) (by rw [hiby, ← hmv]; exact growslice_fits (by omega) hlim.2)
        obtain ⟨lv', q1, q2⟩ := grown cap _ hor (by omega)
        subst hmv hnv
        exact ⟨_, _, lv', hr, q1, q2⟩
end
end Go.Proofs.YtcpgpiabeimefaaGreatDoor
set_option linter.unusedVariables false
namespace Go.Proofs.YtcpgpiabeimefaaGreatDoor
open Go.RowKit
section
variable {P : Program} {T : Nat → Option Ty} {N : Nat} {ops : Array Oper} {lf : Oper → Bool} {Q : SS → Prop} {t : List (Nat × AV)} {h : List (Nat × Option LObj)} {rest : List Oper} {d : Nat} {op : Op} {ty : TypeId} {pos : String} {af : Array Edge} {gd : Option (Nat × Bool)} {r : AV}
theorem Sim.ownHT {B : Bse} {ok0 : Nat → Prop} {s : SS} {lv : Live} {a : Act} {w : World} (hs : Sim B ok0 N s lv a w) {id : Nat} (e0 : TypeId) (hf : Fresh s id) :
    ∃ lv', Sim B ok0 N ⟨s.t, yeo s.h id (some (.tvec e0 []))⟩ lv' a w ∧ ∀ size, Rel (ybq B ok0 lv' w) w lv' (.ls id size 0) (.slice none 0 0) := by
  have hid : lv id = none := hs.inv.dom id hf.1
  have hsame : ∀ j b n, (fun j => if j = id then some (none, 0) else lv j : Live) j = some (some b, n) → lv j = some (some b, n) := by
    intro j b n hj
    simp only at hj
    split at hj
    · cases hj
    · exact hj
  have hok : ∀ g, ybq B ok0 lv w g → ybq B ok0 (fun j => if j = id then some (none, 0) else lv j) w g := fun g hg => ⟨hg.1, hg.2.1, fun j b n hj => hg.2.2 j b n (hsame j b n hj)⟩
  have hre : ∀ (x : AV) (u : Value), ment id x = false → Rel (ybq B ok0 lv w) w lv x u → Rel (ybq B ok0 (fun j => if j = id then some (none, 0) else lv j) w) w (fun j => if j = id then some (none, 0) else lv j) x u := fun x u hm hr =>
    (hr.relive fun j b n hj hmj => by
      split at hj
      · rename_i e; subst e; rw [hm] at hmj; cases hmj
      · exact hj).keep fun g hg => ⟨hok g hg, rfl⟩
  refine ⟨fun j => if j = id then some (none, 0) else lv j, ⟨⟨hs.inv.base, hs.inv.ok0lt, fun j hj => ?_, fun i j b n m h1 h2 => hs.inv.inj i j b n m (hsame _ _ _ h1) (hsame _ _ _ h2), fun j x hx => ?_⟩, hs.size, fun x y hy => ?_, hs.defers, hs.big, fun j b o hN hj hc hb => ?_⟩, fun size => ?_⟩
  · by_cases h : j = id
    · subst h; simp [yeo] at hj
    · simp only [yeo, h, if_false] at hj ⊢; exact hs.inv.dom j hj
  · by_cases h : j = id
    · subst h
      simp only [yeo, if_true, Option.some.injEq] at hx
      subst hx
      exact ⟨none, 0, by simp, .inr ⟨e0, rfl⟩⟩
    · simp only [yeo, h, if_false] at hx
      obtain ⟨b, n, h1, h2⟩ := hs.inv.obj j x hx
      refine ⟨b, n, by simp [h, h1], ?_⟩
      cases b with
      | none => exact h2
      | some b =>
        refine ⟨h2.1, h2.2.1, (h2.2.2.relive fun i b n hi hmi => ?_).keep (fun g hg => ⟨hok g hg, rfl⟩) rfl⟩
        split at hi
        · rename_i e; subst e; rw [hf.2.2 j x hx] at hmi; cases hmi
        · exact hi
  · have := hs.frame x y hy
    exact ⟨this.1, hre y _ (hf.2.1 x y hy) this.2⟩
  · by_cases h : j = id
    · subst h; simp only [yeo, if_true, Option.some.injEq] at hj; subst hj; cases hc
    · simp only [yeo, h, if_false] at hj ⊢
      exact hs.pin j b o hN hj hc hb
  · refine .ls _ rfl fun b n hb => ?_
    simp only [if_true, Option.some.injEq, Prod.mk.injEq] at hb
    obtain ⟨rfl, rfl⟩ := hb
    exact ⟨rfl, rfl⟩
theorem A_ownCT {c : Code} {Q : Exit → SS → Prop} (jb k id size : Nat) (e0 : TypeId) {te : TypeId} {ys : List AV} (hj : yaq h jb = some (.tcells te ys)) (hk : ys[k]? = some (.v (.slice none 0 0))) (h1 : yfi id t = true) (h2 : yer id h = true) (hne : Nat.beq jb id = false)
    (kk : A P N c Q (S t ((jb, some (.tcells te (ys.set k (.ls id size 0)))) :: (id, some (.tvec e0 [])) :: h))) : A P N c Q (S t h) := by
  intro B ok0 lv a w hs
  obtain ⟨lv', hs1, hnil⟩ := hs.ownHT e0 (fresh_of (t := t) (h := h) h1 h2)
  have hnj : jb ≠ id := fun e => by subst e; simp at hne
  have hj1 : yeo (yaq h) id (some (.tvec e0 [])) jb = some (.tcells te ys) := by simp only [yeo, hnj, if_false]; exact hj
  refine kk B ok0 lv' a w ?_
  rw [← S_h]
  obtain ⟨bo, n, k1, k2⟩ := hs1.inv.obj jb _ hj1
  cases bo with
  | none => simp [OwnAt] at k2
  | some b =>
    obtain ⟨q1, q2, ⟨cc, e, q3, q4, q5, q6, q7⟩, hsh⟩ := k2
    have hkl := (List.getElem?_eq_some_iff.1 hk).1
    have hkc : k < cc.size := by omega
    have hold := rel_v (q7 k _ cc[k] hk (by simp [hkc]))
    have hnew := hnil size
    rw [← hold] at hnew
    have hS : yaq ((id, some (.tvec e0 [])) :: h) = yeo (yaq h) id (some (.tvec e0 [])) := (hlook_cons id _ h).symm
    refine ⟨⟨hs1.inv.base, hs1.inv.ok0lt, fun j hjn => ?_, hs1.inv.inj, fun j x hxj => ?_⟩, hs1.size, hs1.frame, hs1.defers, hs1.big, fun j b' o hN hjx hc hb' => ?_⟩
    · by_cases hjj : j = jb
      · subst hjj; simp [yeo] at hjn
      · simp only [yeo, hjj, if_false, hS] at hjn; exact hs1.inv.dom j hjn
    · by_cases hjj : j = jb
      · subst hjj
        simp only [yeo, if_true, Option.some.injEq] at hxj
        subst hxj
        refine ⟨some b, n, k1, q1, q2, ⟨cc, e, q3, q4, by simpa using q5, fun x hxm => ?_, fun i x u hi hu => ?_⟩, by simpa using hsh⟩
        · rcases List.mem_or_eq_of_mem_set hxm with hm | hm
          · exact q6 x hm
          · subst hm; rfl
        · rw [List.getElem?_set] at hi
          split at hi
          · rename_i e1
            subst e1
            cases hi
            simp only [hkc, Array.getElem?_eq_getElem, Option.some.injEq] at hu
            subst hu
            exact hnew
          · exact q7 i x u hi hu
      · simp only [yeo, hjj, if_false, hS] at hxj
        exact hs1.inv.obj j x hxj
    · by_cases hjj : j = jb
      · subst hjj
        exact hs1.pin j b' _ hN hj1 rfl hb'
      · simp only [yeo, hjj, if_false, hS] at hjx
        exact hs1.pin j b' o hN hjx hc hb'
theorem appendS_loud (hT : TOK P T) {o : Oper} {ti tj e es eb sz s2 : Nat} {ea ag a2 : Bool} {ez z z2 : List Value} {x y : Operand} {id len : Nat} {xs : List AV} {s0 : ByteArray} {s s' : SS} (ho : o.op = .call { callee := .builtin .append, args := #[x, y], argTypes := #[ti, tj] }) (hd : o.dst = some d) (hdN : d < N) (hk : T ti = some ⟨.slc e es ea eb ez, sz, ag, z⟩) (hk2 : T tj = some ⟨.string, s2, a2, z2⟩) (hes : es = 1)
    (hx : evF s.t x = some (.ls id es len)) (hid : s.h id = some (.tvec e xs)) (hxl : xs.length = len * es) (hy : evF s.t y = some (.v (.string s0))) (hlim : len + s0.size ≤ 4294967296 ∧ (len + s0.size) * eb ≤ 140737488355328)
    (ht : ∀ x y, s'.t x = some y → y = .any ∨ (s.t x = some y ∧ ment id y = false)) (hlt : ∀ x y, s'.t x = some y → ∃ z, s.t x = some z) (hh : ∀ j ob', j ≠ id → s'.h j = some ob' → mentO id ob' = false ∧ ∃ ob, s.h j = some ob ∧ ForgO ob ob') (hid' : s'.h id = some (.tvec e (xs ++ ydu s0.data.toList))) :
    LoudAt P N o s (· = ⟨updF s'.t (some d) (.ls id es (len + s0.size)), s'.h⟩) := by
  intro B ok0 lv a w hs Q
  have hyv := rel_v (hs.eval hy)
  obtain ⟨v', w', lv', hrun0, hs', hrel⟩ := appendS_world (ty := o.type) hs (hT _ _ hk).2.2 hes (hT _ _ hk2).2.2 rfl rfl rfl hid hxl (hs.eval hx) hlim ht hlt hh hid'
  have hrun : (execOp a.eval o).run P w = .ok (.value v') w' := by
    simp only [execOp, ho, resolve, invoke, builtin, Sem.run_bind, Sem.run_pure, Result.andThen_ok, List.map_toArray, List.map_cons, List.map_nil, hyv, hrun0]
  unfold Oper.wp
  rw [hrun]
  simp only [Oper.upon, hd]
  exact ⟨_, lv', rfl, hs'.putOnly hdN hrel⟩
theorem L_appendS (hT : TOK P T) {ti tj e es eb sz s2 : Nat} {ea ag a2 : Bool} {ez z z2 : List Value} {x y : Operand} {id len : Nat} {xs : List AV} {s0 : ByteArray} {t' : List (Nat × AV)} {h' : List (Nat × Option LObj)} (hk : T ti = some ⟨.slc e es ea eb ez, sz, ag, z⟩) (hk2 : T tj = some ⟨.string, s2, a2, z2⟩) (hes : es = 1) (hx : evF (ybj t) x = some (.ls id es len)) (hid : yaq h id = some (.tvec e xs)) (hxl : xs.length = len * es) (hy : evF (ybj t) y = some (.v (.string s0)))
    (hlim : len + s0.size ≤ 4294967296 ∧ (len + s0.size) * eb ≤ 140737488355328) (ht : forgT id t = some t') (hh : forgH id h = some h') (hl : lf ⟨some d, .call { callee := .builtin .append, args := #[x, y], argTypes := #[ti, tj] }, ty, pos, af, gd⟩ = true)
    (hw : ybh ops (ybj t) ⟨some d, .call { callee := .builtin .append, args := #[x, y], argTypes := #[ti, tj] }, ty, pos, af, gd⟩ = some true) (hd : Nat.blt d N = true) (k : Lex P N ops lf Q rest (S ((d, .ls id es (len + s0.size)) :: t') ((id, some (.tvec e (xs ++ ydu s0.data.toList))) :: h'))) :
    Lex P N ops lf Q (⟨some d, .call { callee := .builtin .append, args := #[x, y], argTypes := #[ti, tj] }, ty, pos, af, gd⟩ :: rest) (S t h) := by
  obtain ⟨g1, g2⟩ := forgT_spec ht
  have e : S ((d, .ls id es (len + s0.size)) :: t') ((id, some (.tvec e (xs ++ ydu s0.data.toList))) :: h') = (⟨updF (S t' ((id, some (.tvec e (xs ++ ydu s0.data.toList))) :: h')).t (some d) (.ls id es (len + s0.size)), (S t' ((id, some (.tvec e (xs ++ ydu s0.data.toList))) :: h')).h⟩ : SS) := by
    unfold S; rw [look_cons]
  refine L_loud hl hw ?_ k
  rw [e]
  refine appendS_loud hT rfl rfl (by simpa using hd) hk hk2 hes hx hid hxl hy hlim g1 g2 (fun j ob' hj hob => ?_) ?_
  · simp only [S, yaq, yfm hj] at hob
    exact forgH_spec hh j ob' hob
  · simp [S, yaq]
theorem allocT_loud (hT : TOK P T) {o : Oper} {elem : TypeId} {y : Ty} {s : SS} (ho : o.op = .alloc elem) (hd : o.dst = some d) (hdN : d < N) (id : Nat) (hy : T elem = some y) (hone : y.zero.all Value.oneCell' = true) (hf : Fresh s id) (hidN : id < N) :
    LoudAt P N o s (· = ⟨updF s.t (some d) (.lp id 0), yeo s.h id (some (.tcells elem (y.zero.map .v)))⟩) := by
  intro B ok0 lv a w hs Q
  obtain ⟨z, h1, h2⟩ := (hT _ _ hy).2.1.run (w := w)
  have hrun : (execOp a.eval o).run P w = .ok (.value (.pointer (some ⟨w.heap.size, 0, none⟩))) (w.alloc (.cells y.zero.toArray elem)) := by
    simp [execOp, ho, Instr.alloc, newVar, newRow, h1, h2]
  unfold Oper.wp
  rw [hrun]
  have hm : ment.mentL id (y.zero.map .v) = false := by
    induction y.zero with
    | nil => rfl
    | cons a l ih => simp [ment.mentL, ment, ih]
  have hra : ycd (ybq B ok0 lv w) w lv (y.zero.map .v) y.zero := ⟨by simp, fun i x u hx hu => by rw [List.getElem?_map, hu] at hx; simp at hx; subst hx; exact .v u⟩
  have hnew := hs.newBlock (ob := .tcells elem (y.zero.map .v)) (n := y.zero.length) hf (yeg w (.cells y.zero.toArray elem)) (by simp) (by simpa [mentO] using hm) (fun _ => hidN)
    (fun ok' lv' g1 g2 => ⟨blk_new (extra := []) (e := elem) (by simp) (by rw [heap_alloc_eq]; simp) hra (fun c hc => by
      obtain ⟨v, hv, rfl⟩ := List.mem_map.1 hc
      exact List.all_eq_true.1 hone v hv) ok' lv' g1 g2, by rw [shape_alloc]; simp⟩)
  simp only [Oper.upon, hd]
  exact ⟨_, _, rfl, hnew.putOnly hdN (.lp _ rfl fun b n hb => by simp only [setLv, if_true, Option.some.injEq, Prod.mk.injEq] at hb; rw [hb.1])⟩
theorem L_allocT (hT : TOK P T) {elem : TypeId} {y : Ty} (hy : T elem = some y) (hone : y.zero.all Value.oneCell' = true) (h1 : yfi d t = true) (h2 : yer d h = true) (hl : lf ⟨some d, .alloc elem, ty, pos, af, gd⟩ = true) (hw : ybh ops (ybj t) ⟨some d, .alloc elem, ty, pos, af, gd⟩ = some true) (hd : Nat.blt d N = true)
    (k : Lex P N ops lf Q rest (S ((d, .lp d 0) :: t) ((d, some (.tcells elem (vMap y.zero))) :: h))) : Lex P N ops lf Q (⟨some d, .alloc elem, ty, pos, af, gd⟩ :: rest) (S t h) :=
  L_loud hl hw (by rw [← S_upd, vMap_eq]; exact allocT_loud hT rfl rfl (by simpa using hd) d hy hone (fresh_of h1 h2) (by simpa using hd)) k
theorem L_storeT (hT : TOK P T) {ti : Nat} {y : Ty} {x v : Operand} {id off : Nat} {te : TypeId} {xs cs ys : List AV} {u : AV} (hy : T ti = some y) (hx : evF (ybj t) x = some (.lp id off)) (hv : evF (ybj t) v = some u) (hcs : yff u = some cs) (hcl : Nat.beq cs.length y.size = true) (hh : yaq h id = some (.tcells te xs)) (hne : xs ≠ []) (hsp : spliceN off cs xs = some ys)
    (hl : lf ⟨none, .store ti x v, ty, pos, af, gd⟩ = true) (hw : ybh ops (ybj t) ⟨none, .store ti x v, ty, pos, af, gd⟩ = some true) (k : Lex P N ops lf Q rest (S t ((id, some (.tcells te ys)) :: h))) : Lex P N ops lf Q (⟨none, .store ti x v, ty, pos, af, gd⟩ :: rest) (S t h) := by
  obtain ⟨h1, h2⟩ := spliceN_eq hsp
  refine L_loud hl hw (by rw [← S_h]; exact store_loud rfl rfl (hT _ _ hy).1 hx hv hcs (by simpa using hcl) hh (by rw [h2]; exact .tcells h1 hne)) k
theorem yield_nilCheck {ρ : Operand → Option AV} {hp : Nat → Option LObj} {x : Operand} {id off : Nat} {xs : List AV} (hx : ρ x = some (.lp id off)) (hh : cellsL (hp id) = some xs) : ydf P hp ρ (.nilCheck x) ty (.lp id off) :=
  yaz fun B ok0 lv w a o ho hty hi' hops => by
    have hr := hops x _ (by simp [Op.operands]) hx
    obtain ⟨g1, g2⟩ := ydy hh
    obtain ⟨b, n, hb, hu, _⟩ := ycv hi' g1 g2 hr
    exact ⟨a.eval x, by simp [execOp, ho, hu], hr⟩
theorem yal {x : Operand} {id off : Nat} {xs : List AV} (hx : evF (ybj t) x = some (.lp id off)) (hh : cellsL (yaq h id) = some xs) (hw : ybh ops (ybj t) ⟨some d, .nilCheck x, ty, pos, af, gd⟩ = some true) (hd : Nat.blt d N = true) (k : Lex P N ops lf Q rest (S ((d, .lp id off) :: t) h)) : Lex P N ops lf Q (⟨some d, .nilCheck x, ty, pos, af, gd⟩ :: rest) (S t h) :=
  yaw (yield_nilCheck hx hh) hw hd k
theorem yield_sliceData {ρ : Operand → Option AV} {hp : Nat → Option LObj} {x : Operand} {ts : Array TypeId} {id len : Nat} {te : TypeId} {y : AV} {xs : List AV} (hx : ρ x = some (.ls id 1 len)) (hh : hp id = some (.tvec te (y :: xs))) (hlen : len ≠ 0) : ydf P hp ρ (.call { callee := .builtin .unsafeSliceData, args := #[x], argTypes := ts }) ty (.lp id 0) :=
  yaz fun B ok0 lv w a o ho hty hi' hops => by
    have hr := hops x _ (by simp [Op.operands, Call.operands]) hx
    obtain ⟨b, n, hb, hown⟩ := hi'.obj id _ hh
    cases b with
    | none => exact absurd (own_nil hown) (by simp)
    | some b =>
      generalize hv : a.eval x = v at hr
      cases hr with
      | ls _ h1 h2 =>
        obtain ⟨cap, rfl, hle, hmx, hcn⟩ := h2 (some b) n hb
        refine ⟨.pointer (some ⟨b, 0, none⟩), ?_, .lp _ rfl fun b' n' hb' => by rw [hb] at hb'; cases hb'; rfl⟩
        simp [execOp, ho, resolve, invoke, builtin, hv, Lib.run_unsafeSliceData_row (P := P) w ts o.type ⟨b, 0, none⟩ len cap (by omega)]
theorem L_sliceData {x : Operand} {ts : Array TypeId} {id len : Nat} {te : TypeId} {y : AV} {xs : List AV} (hx : evF (ybj t) x = some (.ls id 1 len)) (hh : yaq h id = some (.tvec te (y :: xs))) (hlen : len ≠ 0) (hw : ybh ops (ybj t) ⟨some d, .call { callee := .builtin .unsafeSliceData, args := #[x], argTypes := ts }, ty, pos, af, gd⟩ = some true) (hd : Nat.blt d N = true) (k : Lex P N ops lf Q rest (S ((d, .lp id 0) :: t) h)) : Lex P N ops lf Q (⟨some d, .call { callee := .builtin .unsafeSliceData, args := #[x], argTypes := ts }, ty, pos, af, gd⟩ :: rest) (S t h) :=
  yaw (yield_sliceData hx hh hlen) hw hd k

theorem Sim.dropWrite {B : Bse} {ok0 : Nat → Prop} {s : SS} {lv : Live} {a : Act} {w w' : World} (hs : Sim B ok0 N s lv a w) {id b n : Nat} (hl : lv id = some (some b, n)) (hos : w'.os = w.os) (htp : w'.tape = w.tape) (hout : w'.output = w.output) (hsz : w'.heap.size = w.heap.size)
    (hoth : ∀ g, g ≠ b → w'.heap[g]? = w.heap[g]?) : ∃ lv', Sim B ok0 N ⟨s.t, yeo s.h id none⟩ lv' a w' := by
  obtain ⟨x0, hx0, hb1, hb2, hb3⟩ := hs.inv.lvat hl
  have hsub : ∀ j b n, (fun j => if j = id then none else lv j : Live) j = some (b, n) → lv j = some (b, n) := by
    intro j b n hj
    simp only at hj
    split at hj
    · cases hj
    · exact hj
  have hok : ∀ g, ybq B ok0 lv w g → ybq B ok0 (fun j => if j = id then none else lv j) w' g ∧ w'.heap[g]? = w.heap[g]? := fun g hg => ⟨⟨hg.1, by rw [hsz]; exact hg.2.1, fun j b' n' hj => hg.2.2 j b' n' (hsub j _ n' hj)⟩, hoth g (hg.2.2 id b n hl).symm⟩
  refine ⟨fun j => if j = id then none else lv j, ⟨?_, hs.inv.ok0lt, fun j hj => ?_, fun i j b n m h1 h2 => hs.inv.inj i j b n m (hsub _ _ _ h1) (hsub _ _ _ h2), fun j x hx => ?_⟩, hs.size, fun x y hy => ⟨(hs.frame x y hy).1, ((hs.frame x y hy).2.relive fun j b n hb _ => hsub j b n hb).keep hok⟩, hs.defers.same (fun g hg => (hoth g fun e => by subst e; exact (hs.inv.lvat hl).choose_spec.2.2.2.notDef hg).trans hg), hs.big, fun j b' o hN hj hc hb' => ?_⟩
  · exact hs.inv.base.written hb1 hos htp hout hsz hoth
  · by_cases h : j = id
    · simp [h]
    · simp only [yeo, h, if_false] at hj ⊢; exact hs.inv.dom j hj
  · by_cases h : j = id
    · subst h; simp [yeo] at hx
    · simp only [yeo, h, if_false] at hx
      obtain ⟨b', m, h1, h2⟩ := hs.inv.obj j x hx
      refine ⟨b', m, by simp [h, h1], ?_⟩
      cases b' with
      | none => exact h2
      | some b' =>
        obtain ⟨h2, h3, h4⟩ := h2
        refine ⟨h2, by rw [hsz]; exact h3, (h4.relive fun k b n hb _ => hsub k b n hb).keep hok (hoth b' ?_)⟩
        intro he
        subst he
        exact h (hs.inv.inj j id b' m n h1 hl)
  · by_cases h : j = id
    · subst h; simp [yeo] at hj
    · simp only [yeo, h, if_false] at hj ⊢
      exact hs.pin j b' o hN hj hc hb'
theorem freeze_other (w : World) (b n g : Nat) (hg : g ≠ b) : (w.freeze ⟨b, 0, none⟩ n).heap[g]? = w.heap[g]? := by
  unfold World.freeze
  split
  · rfl
  · simp [Array.getElem?_modify, Ne.symm hg]
theorem freeze_same (w : World) (a : Addr) (n : Nat) : (w.freeze a n).os = w.os ∧ (w.freeze a n).tape = w.tape ∧ (w.freeze a n).output = w.output ∧ (w.freeze a n).heap.size = w.heap.size := by
  unfold World.freeze
  split
  · exact ⟨rfl, rfl, rfl, rfl⟩
  · exact ⟨rfl, rfl, rfl, by simp⟩
theorem unsafeString_loud {o : Oper} {x y : Operand} {pt it te : TypeId} {id : Nat} {l : List UInt8} {s : SS} (ho : o.op = .call { callee := .builtin .unsafeString, args := #[x, y], argTypes := #[pt, it] }) (hd : o.dst = some d) (hdN : d < N) (hp : P.underlying pt = some (.pointer te)) (hc : P.cellsOf te = 1)
    (hx : evF s.t x = some (.lp id 0)) (hid : s.h id = some (.tvec te (ydu l))) (hy : evF s.t y = some (.v (.int .i64 l.length))) (h0 : l ≠ []) (h63 : l.length ≤ 9223372036854775807) :
    LoudAt P N o s (· = ⟨updF s.t (some d) (.v (.string ⟨l.toArray⟩)), yeo s.h id none⟩) := by
  intro B ok0 lv a w hs Q
  have hyv := rel_v (hs.eval hy)
  have hne : ydu l ≠ [] := by intro e; exact h0 (by simpa [ydu] using e)
  obtain ⟨b, n, hb, hxv, hcells⟩ := ycv hs.inv (xs := ydu l) (by rw [hid]; rfl) (.inl hne) (hs.eval hx)
  obtain ⟨b2, n2, hb2, hown⟩ := hs.inv.obj id _ hid
  rw [hb] at hb2
  cases hb2
  obtain ⟨_, _, ⟨c, e, g1, g2, g3, _, _⟩, _, hsh⟩ := hown
  have hrun0 := Lib.run_unsafeString_row (P := P) w pt it o.type te hp hc b n hsh l h0 (by rw [bytesA_len] at g3; exact g3) h63 (fun j x hjx => by
    obtain ⟨_, u, hu, hr⟩ := hcells j (.v (.int .u8 x.toNat)) (by simp [ydu, hjx])
    rw [addr_add]
    rw [rel_v hr] at hu
    exact hu)
  have hrun : (execOp a.eval o).run P w = .ok (.value (.string ⟨l.toArray⟩)) (w.freeze ⟨b, 0, none⟩ l.length) := by
    simp only [execOp, ho, resolve, invoke, builtin, Sem.run_bind, Sem.run_pure, Result.andThen_ok, List.map_toArray, List.map_cons, List.map_nil, hyv, hxv, hrun0]
  unfold Oper.wp
  rw [hrun]
  simp only [Oper.upon, hd]
  obtain ⟨f1, f2, f3, f4⟩ := freeze_same w ⟨b, 0, none⟩ l.length
  obtain ⟨lv', hs'⟩ := hs.dropWrite hb f1 f2 f3 f4 (fun g hg => freeze_other w b l.length g hg)
  exact ⟨_, lv', rfl, hs'.putOnly hdN (.v _)⟩
theorem L_unsafeString {x y : Operand} {pt it te : TypeId} {id : Nat} {l : List UInt8} (hp : P.underlying pt = some (.pointer te)) (hc : P.cellsOf te = 1) (hx : evF (ybj t) x = some (.lp id 0)) (hid : yaq h id = some (.tvec te (ydu l))) (hy : evF (ybj t) y = some (.v (.int .i64 l.length))) (h0 : l ≠ []) (h63 : l.length ≤ 9223372036854775807)
    (hl : lf ⟨some d, .call { callee := .builtin .unsafeString, args := #[x, y], argTypes := #[pt, it] }, ty, pos, af, gd⟩ = true) (hw : ybh ops (ybj t) ⟨some d, .call { callee := .builtin .unsafeString, args := #[x, y], argTypes := #[pt, it] }, ty, pos, af, gd⟩ = some true) (hd : Nat.blt d N = true)
    (k : Lex P N ops lf Q rest (S ((d, .v (.string ⟨l.toArray⟩)) :: t) ((id, none) :: h))) : Lex P N ops lf Q (⟨some d, .call { callee := .builtin .unsafeString, args := #[x, y], argTypes := #[pt, it] }, ty, pos, af, gd⟩ :: rest) (S t h) :=
  L_loud hl hw (by rw [← S_upd]; exact unsafeString_loud rfl rfl (by simpa using hd) hp hc hx hid hy h0 h63) k

theorem yield_eqlNil {ρ : Operand → Option AV} {hp : Nat → Option LObj} {x y : Operand} {tp ty' : TypeId} (hu : P.underlying tp = some (.pointer (P.pointee tp))) (hx : ρ x = some (.v (.pointer none))) (hy : ρ y = some (.v (.pointer none))) : ydf P hp ρ (.binOp .eql tp x y ty') ty (.v (.bool true)) :=
  yea (fun _ _ => by simp) (by simp [plainL, Op.operands, hx, hy, toV]) fun w => by
    have := run_eql_pointer_nil (P := P) w tp none hu
    simp [execOp, envV_v hx, envV_v hy, eqGuard, this]
theorem yield_eqlLp {ρ : Operand → Option AV} {hp : Nat → Option LObj} {x y : Operand} {tp ty' : TypeId} {id off : Nat} {xs : List AV} (hu : P.underlying tp = some (.pointer (P.pointee tp))) (hx : ρ x = some (.lp id off)) (hh : cellsL (hp id) = some xs) (hy : ρ y = some (.v (.pointer none))) : ydf P hp ρ (.binOp .eql tp x y ty') ty (.v (.bool false)) :=
  yaz fun B ok0 lv w a o ho hty hi' hops => by
    obtain ⟨g1, g2⟩ := ydy hh
    obtain ⟨b, n, hb, hv, _⟩ := ycv hi' g1 g2 (hops x _ (by simp [Op.operands]) hx)
    have hyv := rel_v (hops y _ (by simp [Op.operands]) hy)
    have := run_eql_pointer_nil (P := P) w tp (some ⟨b, off, none⟩) hu
    exact ⟨_, by simp [execOp, ho, hv, hyv, eqGuard, this], .v _⟩
theorem yield_neqLp {ρ : Operand → Option AV} {hp : Nat → Option LObj} {x y : Operand} {tp te ty' : TypeId} {id off : Nat} {xs : List AV} (hu : P.underlying tp = some (.pointer te)) (hi0 : (P.info? te).isSome = true) (hx : ρ x = some (.lp id off)) (hh : cellsL (hp id) = some xs) (hy : ρ y = some (.lp id off)) : ydf P hp ρ (.binOp .neq tp x y ty') ty (.v (.bool false)) :=
  yaz fun B ok0 lv w a o ho hty hi' hops => by
    obtain ⟨g1, g2⟩ := ydy hh
    obtain ⟨b, n, hb, hv, _⟩ := ycv hi' g1 g2 (hops x _ (by simp [Op.operands]) hx)
    obtain ⟨b', n', hb', hv', _⟩ := ycv hi' g1 g2 (hops y _ (by simp [Op.operands]) hy)
    rw [hb] at hb'
    cases hb'
    obtain ⟨j, hj⟩ := Option.isSome_iff_exists.1 hi0
    have := Lib.run_neq_ptr_same (P := P) w ⟨b, off, none⟩ hu hj
    exact ⟨_, by simp [execOp, ho, hv, hv', eqGuard, this], .v _⟩
theorem yield_toUnsafe {ρ : Operand → Option AV} {hp : Nat → Option LObj} {x : Operand} {src dst te t0 : TypeId} {id off : Nat} {xs : List AV} (hs : P.underlying src = some (.pointer t0)) (hd : P.underlying dst = some .unsafePointer) (ht : (P.info? t0).map (·.size) = some 2) (hx : ρ x = some (.lp id off)) (hh : hp id = some (.tcells te xs)) (hoff : off < xs.length) : ydf P hp ρ (.convert src dst x) ty (.lp id off) :=
  yaz fun B ok0 lv w a o ho hty hi' hops => by
    have hr := hops x _ (by simp [Op.operands]) hx
    obtain ⟨b, n, hb, hv, _⟩ := ycv hi' (xs := xs) (by rw [hh]; rfl) (.inl (by intro e; rw [e] at hoff; simp at hoff)) hr
    obtain ⟨b2, n2, hb2, hown⟩ := hi'.obj id _ hh
    rw [hb] at hb2
    cases hb2
    obtain ⟨j, hj, hj2⟩ := Option.map_eq_some_iff.1 ht
    have := Lib.run_to_unsafe (P := P) w ⟨b, off, none⟩ hs hd hj (by rw [hj2]; decide) hown.2.2.2 hoff
    rw [hv] at hr
    exact ⟨_, by simp [execOp, ho, hv, this], hr⟩
theorem yield_fromUnsafe {ρ : Operand → Option AV} {hp : Nat → Option LObj} {x : Operand} {src dst te t0 : TypeId} {id off : Nat} {xs : List AV} (hs : P.underlying src = some .unsafePointer) (hd : P.underlying dst = some (.pointer t0)) (ht : (P.info? t0).isSome = true) (hx : ρ x = some (.lp id off)) (hh : hp id = some (.tcells te xs)) (hne : xs ≠ []) (hlies : liesAt P P.depth te (xs.length / P.cellsOf te) off t0 1 = true) : ydf P hp ρ (.convert src dst x) ty (.lp id off) :=
  yaz fun B ok0 lv w a o ho hty hi' hops => by
    have hr := hops x _ (by simp [Op.operands]) hx
    obtain ⟨b, n, hb, hv, _⟩ := ycv hi' (xs := xs) (by rw [hh]; rfl) (.inl hne) hr
    obtain ⟨b2, n2, hb2, hown⟩ := hi'.obj id _ hh
    rw [hb] at hb2
    cases hb2
    obtain ⟨j, hj⟩ := Option.isSome_iff_exists.1 ht
    have := Lib.run_from_unsafe (P := P) w ⟨b, off, none⟩ hs hd hj hown.2.2.2 hlies
    rw [hv] at hr
    exact ⟨_, by simp [execOp, ho, hv, this], hr⟩
theorem yield_noEscape {ρ : Operand → Option AV} {hp : Nat → Option LObj} {x : Operand} {f : FuncId} {fn : Func} {ats : Array TypeId} {y : AV} (hf : P.funcs[f]? = some fn) (hname : (fn.name == "runtime.NumGoroutine") = false) (hb : fn.body.isNone = true) (hn : Extern.findNext fn = none) (he : Extern.find fn = some Extern.AbiNoEscape.same) (hx : ρ x = some y) : ydf P hp ρ (.call { callee := .value (.func f), args := #[x], argTypes := ats }) ty y :=
  yaz fun B ok0 lv w a o ho hty hi' hops => by
    have hr := hops x _ (by simp [Op.operands, Call.operands]) hx
    refine ⟨a.eval x, ?_, hr⟩
    have := run_callFunc_extern hf hname hb hn he #[a.eval x] w
    rw [Lib.run_noEscape] at this
    simp only [Result.andThen_ok] at this
    have hfe : a.eval (.func f) = .func (.func f) #[] #[] := rfl
    simp [execOp, ho, resolve, Deferred.ofValue, hfe, invoke, this]
end
end Go.Proofs.YtcpgpiabeimefaaGreatDoor
