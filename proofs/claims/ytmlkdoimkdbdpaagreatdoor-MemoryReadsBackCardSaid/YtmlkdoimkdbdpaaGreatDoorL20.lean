/- Part 20 of the texts under MemoryReadsAndWrites,MemoryReadsBack: joined, with what it needs alone. -/
import Derived.Lib.Split
import Derived.Lib.SplitLaws
import GoSem.Core.Utf8
import Derived.Lib.ItoaNum
import Derived.Shelf.Strconv.Itoa0
import Derived.Shelf.Strconv.Itoa1
import Derived.Shelf.LaysM
import Derived.Shelf.Strconv.Itoa2
import Derived.Shelf.Strconv.Itoa3
import Derived.Shelf.Strings.Search1
import Derived.Shelf.Strings.Search2
import Derived.Shelf.Strings.Search3
import Derived.Shelf.Strings.Count
import Derived.Shelf.Strings.Shaped
import Derived.Shelf.Strings.Prefix
import Derived.Shelf.Strings.Split
import Derived.Shelf.Unicode.DecodeSlow
import Derived.Test.YtmlkdoimkdbdpaaGreatDoorProg
import Derived.Test.YtmlkdoimkdbdpaaGreatDoorL7
import Derived.Test.YtmlkdoimkdbdpaaGreatDoorL9
import Derived.Test.YtmlkdoimkdbdpaaGreatDoorL10
import Derived.Test.YtmlkdoimkdbdpaaGreatDoorL19
set_option linter.unusedVariables false
set_option maxRecDepth 100000
set_option maxHeartbeats 8000000
namespace Go.Proofs.YtmlkdoimkdbdpaaGreatDoor
open Go.RowKit
theorem table_inv {p : ProgD} {g : GraphD} {v x : Nat} {r : List (Int × Int)} {b : Int × Int} (hr : (ybc p g)[v]? = some r) (hb : r[x]? = some b) : ∃ ls y, g.ports[v]? = some ls ∧ p.vars[x]? = some y ∧ b = ybe y g ls.length := by
  simp only [ybc, List.getElem?_map] at hr
  cases hg : g.ports[v]? with
  | none => rw [hg] at hr; cases hr
  | some ls =>
    rw [hg] at hr
    cases hr
    simp only [List.getElem?_map] at hb
    cases hy : p.vars[x]? with
    | none => rw [hy] at hb; cases hb
    | some y => rw [hy] at hb; cases hb; exact ⟨ls, y, rfl, rfl, rfl⟩
theorem tends_con (p : ProgD) (g : GraphD) (hf : Fair p g) (h0 : ydl p g = 0) (v x : Nat) (r : List (Int × Int)) (b : Int × Int) (hr : (ybc p g)[v]? = some r) (hb : r[x]? = some b) : Con Tryz.prog 32 [encP p, encG g, i64 v, i64 x] (pairA b) := by
  obtain ⟨ls, y, h1, h2, rfl⟩ := table_inv hr hb
  obtain ⟨hc0, hg, hfit⟩ := fits_zero.1 h0
  have hll := hf.glen.2.2 ls (List.mem_of_getElem? h1)
  exact ends_con p g v x ls y ((yde hc0).2.2.2 y (List.mem_of_getElem? h2)) hg (by omega) (by simpa using h1) (by omega) (by omega) (by simpa using h2)
theorem rcheck_con (p : ProgD) (g : GraphD) (c : List (List Int)) (hf : Fair p g) (hc : CfgIn c) : Con Tryz.prog 12 [encP p, encG g, encC c] (i64 (yet p g c)) := by
  have hcl := hc.1
  have hgl := hf.glen
  have hvl := hf.vlen
  refine ybs Tryz.func12 rfl rfl Tryz.ntmps12 Tryz.results12 rfl rfl ?_
  (repeat (first | refine zI ?_ | refine zL ?_ | refine zC ?_ | refine yai ?_ | refine yaj ?_ | refine zR ?_ | refine zD ?_ | refine zK ?_ | refine zB ?_ | refine zA ?_ | refine zS ?_ | refine zU ?_ | refine zV ?_ | refine zF ?_ | with_reducible refine yac ?_ | with_reducible refine yag ?_ | refine yad ?_ | refine yae ?_ | refine yaf ?_ | refine zT ?_ | refine zE ?_ | refine zX ?_ | refine yar rfl rfl (rfits_con p g hf) rfl rfl ?_))
  refine yaq rfl (fun h => ?_) (fun h => ?_)
  · (repeat (first | refine zI ?_ | refine zL ?_ | refine zC ?_ | refine yai ?_ | refine yaj ?_ | refine zR ?_ | refine zD ?_ | refine zK ?_ | refine zB ?_ | refine zA ?_ | refine zS ?_ | refine zU ?_ | refine zV ?_ | refine zF ?_ | with_reducible refine yac ?_ | with_reducible refine yag ?_ | refine yad ?_ | refine yae ?_ | refine yaf ?_ | refine zT ?_ | refine zE ?_ | refine zX ?_))
    refine yas ?_; refine ⟨_, rfl, ?_⟩
    have : ydl p g ≠ 0 := by simpa using h
    exact ydb (by simp [yet, this])
  have h0 : ydl p g = 0 := by simpa using h
  have hbad : yfi (ybc p g) c = false → (10 : Int) = yet p g c := fun e => by rw [yet, if_pos h0, if_neg (by simp [e])]
  have htl : (ybc p g).length = g.ports.length := by simp [ybc]
  (repeat (first | refine zI ?_ | refine zL ?_ | refine zC ?_ | refine yai ?_ | refine yaj ?_ | refine zR ?_ | refine zD ?_ | refine zK ?_ | refine zB ?_ | refine zA ?_ | refine zS ?_ | refine zU ?_ | refine zV ?_ | refine zF ?_ | with_reducible refine yac ?_ | with_reducible refine yag ?_ | refine yad ?_ | refine yae ?_ | refine yaf ?_ | refine zT ?_ | refine zE ?_ | refine zX ?_))
  refine yaq rfl (fun h1 => ?_) (fun h1 => ?_)
  · (repeat (first | refine zI ?_ | refine zL ?_ | refine zC ?_ | refine yai ?_ | refine yaj ?_ | refine zR ?_ | refine zD ?_ | refine zK ?_ | refine zB ?_ | refine zA ?_ | refine zS ?_ | refine zU ?_ | refine zV ?_ | refine zF ?_ | with_reducible refine yac ?_ | with_reducible refine yag ?_ | refine yad ?_ | refine yae ?_ | refine yaf ?_ | refine zT ?_ | refine zE ?_ | refine zX ?_))
    refine yas ?_; refine ⟨_, rfl, ?_⟩
    have : c.length ≠ (ybc p g).length := by rw [htl]; intro e; simp [e] at h1
    exact ydb (hbad (by simp [yfi, this]))
  have hl : c.length = (ybc p g).length := by simp at h1; omega
  (repeat (first | refine zI ?_ | refine zL ?_ | refine zC ?_ | refine yai ?_ | refine yaj ?_ | refine zR ?_ | refine zD ?_ | refine zK ?_ | refine zB ?_ | refine zA ?_ | refine zS ?_ | refine zU ?_ | refine zV ?_ | refine zF ?_ | with_reducible refine yac ?_ | with_reducible refine yag ?_ | refine yad ?_ | refine yae ?_ | refine yaf ?_ | refine zT ?_ | refine zE ?_ | refine zX ?_))
  refine ydp (α := Nat) (fun k => [(8, i64 k), (2, encC c), (3, .lp 3 0), (4, .lp 4 0)]) (fun k => [(3, some (.cells [yfd p.name, .sl 6 (p.vars.map ydi), .sl 3 (p.rules.map ydw)])), (4, some (.cells [ybk g.ids, ybz g.ports]))]) (fun k => c.length - k) (fun k => k ≤ c.length ∧ (((ybc p g).zip c).take k).all (fun x => yef x.1 x.2) = true) 0 ⟨by omega, rfl⟩ (by (repeat (first | exact yan | refine yak rfl ?_))) (by first | exact yab | exact yaa rfl yab | exact yaa rfl (yaa rfl yab) | exact yaa rfl (yaa rfl (yaa rfl yab)) | exact yaa rfl (yaa rfl (yaa rfl (yaa rfl yab)))) ?_
  intro k ⟨hk, hok⟩
  (repeat (first | refine zI ?_ | refine zL ?_ | refine zC ?_ | refine yai ?_ | refine yaj ?_ | refine zR ?_ | refine zD ?_ | refine zK ?_ | refine zB ?_ | refine zA ?_ | refine zS ?_ | refine zU ?_ | refine zV ?_ | refine zF ?_ | with_reducible refine yac ?_ | with_reducible refine yag ?_ | refine yad ?_ | refine yae ?_ | refine yaf ?_ | refine zT ?_ | refine zE ?_ | refine zX ?_))
  refine yaq rfl (fun h2 => ?_) (fun h2 => ?_)
  · simp at h2
    obtain ⟨s, hs⟩ := yeh h2
    obtain ⟨r, hr⟩ := yeh (show k < (ybc p g).length by omega)
    have hz := zip_get hr hs
    have hrl := table_row hr
    have hsl := hc.2 s (List.mem_of_getElem? hs)
    (repeat (first | refine zI ?_ | refine zL ?_ | refine zC ?_ | refine yai ?_ | refine yaj ?_ | refine zR ?_ | refine zD ?_ | refine zK ?_ | refine zB ?_ | refine zA ?_ | refine zS ?_ | refine zU ?_ | refine zV ?_ | refine zF ?_ | with_reducible refine yac ?_ | with_reducible refine yag ?_ | refine yad ?_ | refine yae ?_ | refine yaf ?_ | refine zT ?_ | refine zE ?_ | refine zX ?_))
    refine yaq rfl (fun h3 => ?_) (fun h3 => ?_)
    · (repeat (first | refine zI ?_ | refine zL ?_ | refine zC ?_ | refine yai ?_ | refine yaj ?_ | refine zR ?_ | refine zD ?_ | refine zK ?_ | refine zB ?_ | refine zA ?_ | refine zS ?_ | refine zU ?_ | refine zV ?_ | refine zF ?_ | with_reducible refine yac ?_ | with_reducible refine yag ?_ | refine yad ?_ | refine yae ?_ | refine yaf ?_ | refine zT ?_ | refine zE ?_ | refine zX ?_))
      refine yas ?_; refine ⟨_, rfl, ?_⟩
      have : s.length ≠ r.length := by rw [hrl]; intro e; simp [e] at h3
      exact ydb (hbad (by rw [yfi, allM_bad hz (by simp [yef, this]), Bool.and_false]))
    have hsr : s.length = r.length := by simp at h3; omega
    (repeat (first | refine zI ?_ | refine zL ?_ | refine zC ?_ | refine yai ?_ | refine yaj ?_ | refine zR ?_ | refine zD ?_ | refine zK ?_ | refine zB ?_ | refine zA ?_ | refine zS ?_ | refine zU ?_ | refine zV ?_ | refine zF ?_ | with_reducible refine yac ?_ | with_reducible refine yag ?_ | refine yad ?_ | refine yae ?_ | refine yaf ?_ | refine zT ?_ | refine zE ?_ | refine zX ?_))
    refine ydp (α := Nat) (fun j => [(9, i64 j), (8, i64 k), (2, encC c), (3, .lp 3 0), (4, .lp 4 0)]) (fun j => [(3, some (.cells [yfd p.name, .sl 6 (p.vars.map ydi), .sl 3 (p.rules.map ydw)])), (4, some (.cells [ybk g.ids, ybz g.ports]))]) (fun j => s.length - j) (fun j => j ≤ s.length ∧ ((r.zip s).take j).all (fun x => inRg x.1 x.2) = true) 0 ⟨by omega, rfl⟩ (by (repeat (first | exact yan | refine yak rfl ?_))) (by first | exact yab | exact yaa rfl yab | exact yaa rfl (yaa rfl yab) | exact yaa rfl (yaa rfl (yaa rfl yab)) | exact yaa rfl (yaa rfl (yaa rfl (yaa rfl yab)))) ?_
    intro j ⟨hj, hjk⟩
    (repeat (first | refine zI ?_ | refine zL ?_ | refine zC ?_ | refine yai ?_ | refine yaj ?_ | refine zR ?_ | refine zD ?_ | refine zK ?_ | refine zB ?_ | refine zA ?_ | refine zS ?_ | refine zU ?_ | refine zV ?_ | refine zF ?_ | with_reducible refine yac ?_ | with_reducible refine yag ?_ | refine yad ?_ | refine yae ?_ | refine yaf ?_ | refine zT ?_ | refine zE ?_ | refine zX ?_))
    refine yaq rfl (fun h4 => ?_) (fun h4 => ?_)
    · simp at h4
      obtain ⟨z, hzj⟩ := yeh h4
      obtain ⟨b, hb⟩ := yeh (show j < r.length by omega)
      have hzz := zip_get hb hzj
      (repeat (first | refine zI ?_ | refine zL ?_ | refine zC ?_ | refine yai ?_ | refine yaj ?_ | refine zR ?_ | refine zD ?_ | refine zK ?_ | refine zB ?_ | refine zA ?_ | refine zS ?_ | refine zU ?_ | refine zV ?_ | refine zF ?_ | with_reducible refine yac ?_ | with_reducible refine yag ?_ | refine yad ?_ | refine yae ?_ | refine yaf ?_ | refine zT ?_ | refine zE ?_ | refine zX ?_ | refine yar rfl rfl (tends_con p g hf h0 k j r b hr hb) rfl rfl ?_ | refine yar rfl rfl (in_con _ _ _) rfl rfl ?_))
      refine yaq rfl (fun h5 => ?_) (fun h5 => ?_)
      · (repeat (first | refine zI ?_ | refine zL ?_ | refine zC ?_ | refine yai ?_ | refine yaj ?_ | refine zR ?_ | refine zD ?_ | refine zK ?_ | refine zB ?_ | refine zA ?_ | refine zS ?_ | refine zU ?_ | refine zV ?_ | refine zF ?_ | with_reducible refine yac ?_ | with_reducible refine yag ?_ | refine yad ?_ | refine yae ?_ | refine yaf ?_ | refine zT ?_ | refine zE ?_ | refine zX ?_))
        refine yas ?_; refine ⟨_, rfl, ?_⟩
        have e : inRg b z = false := by simp [inB] at h5; simp [inRg]; omega
        exact ydb (hbad (by rw [yfi, allM_bad hz (by rw [yef, allM_bad hzz e, Bool.and_false]), Bool.and_false]))
      · (repeat (first | refine zI ?_ | refine zL ?_ | refine zC ?_ | refine yai ?_ | refine yaj ?_ | refine zR ?_ | refine zD ?_ | refine zK ?_ | refine zB ?_ | refine zA ?_ | refine zS ?_ | refine zU ?_ | refine zV ?_ | refine zF ?_ | with_reducible refine yac ?_ | with_reducible refine yag ?_ | refine yad ?_ | refine yae ?_ | refine yaf ?_ | refine zT ?_ | refine zE ?_ | refine zX ?_))
        have e : inRg b z = true := by simp [inB] at h5; simp [inRg]; omega
        exact rnd (j + 1) ⟨by omega, allM_snoc hzz hjk e⟩ (by omega) (by (repeat (first | exact yan | refine yak rfl ?_))) (by first | exact yab | exact yaa rfl yab | exact yaa rfl (yaa rfl yab) | exact yaa rfl (yaa rfl (yaa rfl yab)) | exact yaa rfl (yaa rfl (yaa rfl (yaa rfl yab))))
    · simp at h4
      obtain rfl : j = s.length := by omega
      (repeat (first | refine zI ?_ | refine zL ?_ | refine zC ?_ | refine yai ?_ | refine yaj ?_ | refine zR ?_ | refine zD ?_ | refine zK ?_ | refine zB ?_ | refine zA ?_ | refine zS ?_ | refine zU ?_ | refine zV ?_ | refine zF ?_ | with_reducible refine yac ?_ | with_reducible refine yag ?_ | refine yad ?_ | refine yae ?_ | refine yaf ?_ | refine zT ?_ | refine zE ?_ | refine zX ?_))
      rw [List.take_of_length_le (by simp; omega)] at hjk
      exact rnd (k + 1) ⟨by omega, allM_snoc hz hok (by simp [yef, hsr, hjk])⟩ (by omega) (by (repeat (first | exact yan | refine yak rfl ?_))) (by first | exact yab | exact yaa rfl yab | exact yaa rfl (yaa rfl yab) | exact yaa rfl (yaa rfl (yaa rfl yab)) | exact yaa rfl (yaa rfl (yaa rfl (yaa rfl yab))))
  · simp at h2
    obtain rfl : k = c.length := by omega
    (repeat (first | refine zI ?_ | refine zL ?_ | refine zC ?_ | refine yai ?_ | refine yaj ?_ | refine zR ?_ | refine zD ?_ | refine zK ?_ | refine zB ?_ | refine zA ?_ | refine zS ?_ | refine zU ?_ | refine zV ?_ | refine zF ?_ | with_reducible refine yac ?_ | with_reducible refine yag ?_ | refine yad ?_ | refine yae ?_ | refine yaf ?_ | refine zT ?_ | refine zE ?_ | refine zX ?_))
    refine yas ?_; refine ⟨_, rfl, ?_⟩
    rw [List.take_of_length_le (by simp; omega)] at hok
    exact ydb (by rw [yet, if_pos h0, if_pos (by simp [yfi, hl, hok])])
end Go.Proofs.YtmlkdoimkdbdpaaGreatDoor
set_option linter.unusedVariables false
namespace Go.Proofs.YtmlkdoimkdbdpaaGreatDoor

abbrev Bs := List UInt8
def ba (l : Bs) : ByteArray := ⟨l.toArray⟩
def bl (s : ByteArray) : Bs := s.data.toList
theorem bl_ba (l : Bs) : bl (ba l) = l := by simp [bl, ba]
theorem ba_bl (s : ByteArray) : ba (bl s) = s := Lib.mk_data s
theorem ydq (s : ByteArray) : (bl s).length = s.size := (Lib.size_eq s).symm
theorem yda (l : Bs) : (ba l).size = l.length := by simp [ba, ByteArray.size]
theorem bl_get {s : ByteArray} {i : Nat} {b : UInt8} (h : (bl s)[i]? = some b) : s[i]? = some b := by
  have hlt := (List.getElem?_eq_some_iff.1 h).1
  rw [ydq] at hlt
  rw [getElem?_pos s i hlt]
  rw [List.getElem?_eq_getElem (by rw [ydq]; exact hlt)] at h
  simp only [Option.some.injEq] at h ⊢
  rw [← h]
  rfl
theorem bl_extract (s : ByteArray) (a b : Nat) : bl (s.extract a b) = ((bl s).take b).drop a := by
  rw [bl, Lib.extract_data, bl, List.drop_take]

def yaz (c : UInt8) : Bs → List Bs
  | [] => [[]]
  | x :: r => if x == c then [] :: yaz c r else match yaz c r with
    | [] => [[x]]
    | p :: ps => (x :: p) :: ps
theorem splitL_ne (c : UInt8) : ∀ l, yaz c l ≠ []
  | [] => by simp [yaz]
  | x :: r => by
    unfold yaz
    split
    · simp
    · split <;> simp
theorem splitL_cons_ne {c x : UInt8} {r : Bs} (h : x ≠ c) : ∃ p ps, yaz c r = p :: ps ∧ yaz c (x :: r) = (x :: p) :: ps := by
  cases hs : yaz c r with
  | nil => exact absurd hs (splitL_ne c r)
  | cons p ps => exact ⟨p, ps, rfl, by simp [yaz, hs, h]⟩
theorem splitL_none {c : UInt8} : ∀ {l : Bs}, c ∉ l → yaz c l = [l]
  | [], _ => rfl
  | x :: r, h => by
    have hx : x ≠ c := fun e => h (by simp [e])
    obtain ⟨p, ps, h1, h2⟩ := splitL_cons_ne (r := r) hx
    rw [splitL_none (fun e => h (by simp [e]))] at h1
    cases h1
    exact h2
theorem splitL_at {c : UInt8} : ∀ {a r : Bs}, c ∉ a → yaz c (a ++ c :: r) = a :: yaz c r
  | [], r, _ => by simp [yaz]
  | x :: a, r, h => by
    have hx : x ≠ c := fun e => h (by simp [e])
    obtain ⟨p, ps, h1, h2⟩ := splitL_cons_ne (r := a ++ c :: r) hx
    rw [splitL_at (fun e => h (by simp [e]))] at h1
    cases h1
    exact h2
theorem splitL_len (c : UInt8) : ∀ l, (yaz c l).length ≤ l.length + 1
  | [] => by simp [yaz]
  | x :: r => by
    have := splitL_len c r
    unfold yaz
    split
    · simp; omega
    · split
      · simp
      · rename_i h; rw [h] at this; simp at this ⊢; omega
theorem splitL_mem (c : UInt8) : ∀ {l p : Bs}, p ∈ yaz c l → p.length ≤ l.length
  | [], p, h => by simp [yaz] at h; simp [h]
  | x :: r, p, h => by
    unfold yaz at h
    split at h
    · rcases List.mem_cons.1 h with rfl | h
      · simp
      · have := splitL_mem c h; simp; omega
    · split at h
      · simp at h; simp [h]
      · rename_i q qs hq
        rcases List.mem_cons.1 h with rfl | h
        · have := splitL_mem c (l := r) (p := q) (by rw [hq]; simp); simp; omega
        · have := splitL_mem c (l := r) (p := p) (by rw [hq]; simp [h]); simp; omega
theorem splitL_app {c : UInt8} : ∀ {a b cur : Bs} {ds : List Bs}, yaz c a = ds ++ [cur] → c ∉ b → yaz c (a ++ b) = ds ++ [cur ++ b]
  | [], b, cur, ds, h, hb => by
    cases ds with
    | nil => simp [yaz] at h; subst h; simp [splitL_none hb]
    | cons d ds => simp [yaz] at h
  | x :: a, b, cur, ds, h, hb => by
    by_cases hx : x = c
    · subst hx
      have e1 : yaz x (x :: a) = [] :: yaz x a := by simp [yaz]
      have e2 : yaz x (x :: a ++ b) = [] :: yaz x (a ++ b) := by simp [yaz]
      rw [e1] at h
      cases ds with
      | nil => simp at h; exact absurd h.2 (splitL_ne x a)
      | cons d ds =>
        simp at h
        rw [e2, splitL_app h.2 hb, ← h.1]; simp
    · obtain ⟨p, ps, h1, h2⟩ := splitL_cons_ne (r := a) hx
      obtain ⟨q, qs, h3, h4⟩ := splitL_cons_ne (r := a ++ b) hx
      have h4' : yaz c (x :: a ++ b) = (x :: q) :: qs := h4
      rw [h2] at h
      cases ds with
      | nil =>
        simp at h
        obtain ⟨rfl, rfl⟩ := h
        have := splitL_app (ds := []) (b := b) h1 hb
        rw [h3] at this
        simp at this
        rw [h4']; simp [this.1, this.2]
      | cons d ds =>
        simp at h
        obtain ⟨rfl, h⟩ := h
        have := splitL_app (ds := p :: ds) (cur := cur) (b := b) (by rw [h1, h]; simp) hb
        rw [h3] at this
        simp at this
        rw [h4']; simp [this.1, this.2]
theorem splitL_snoc (c : UInt8) (a : Bs) : yaz c (a ++ [c]) = yaz c a ++ [[]] := by
  induction a with
  | nil => simp [yaz]
  | cons x a ih =>
    by_cases hx : x = c
    · subst hx
      have e1 : yaz x (x :: a) = [] :: yaz x a := by simp [yaz]
      have e2 : yaz x (x :: a ++ [x]) = [] :: yaz x (a ++ [x]) := by simp [yaz]
      rw [e2, ih, e1]; simp
    · obtain ⟨p, ps, h1, h2⟩ := splitL_cons_ne (r := a) hx
      obtain ⟨q, qs, h3, h4⟩ := splitL_cons_ne (r := a ++ [c]) hx
      have h4' : yaz c (x :: a ++ [c]) = (x :: q) :: qs := h4
      rw [h4', h2]
      rw [ih, h1] at h3
      simp at h3 ⊢
      simp [h3.1, h3.2]

theorem index_one (c : UInt8) : ∀ (l : Bs), (c ∉ l → Lib.index l [c] = -1) ∧ ∀ a r, c ∉ a → l = a ++ c :: r → Lib.index l [c] = a.length
  | [] => by
    refine ⟨fun _ => by simp [Lib.index], fun a r _ h => by simp at h⟩
  | x :: l => by
    obtain ⟨h1, h2⟩ := index_one c l
    by_cases hx : x = c
    · subst hx
      have e : Lib.index (x :: l) [x] = 0 := by unfold Lib.index; simp
      refine ⟨fun h => absurd (by simp) h, fun a r ha he => ?_⟩
      cases a with
      | nil => simp [e]
      | cons y a => simp at he; exact absurd (by simp [he.1]) ha
    · have e : Lib.index (x :: l) [c] = if Lib.index l [c] == -1 then -1 else Lib.index l [c] + 1 := by
        conv => lhs; unfold Lib.index
        simp [Ne.symm hx]
      refine ⟨fun h => ?_, fun a r ha he => ?_⟩
      · rw [e, h1 (fun hh => h (by simp [hh]))]; simp
      · cases a with
        | nil => simp at he; exact absurd he.1 hx
        | cons y a =>
          simp at he
          have := h2 a r (fun hh => ha (by simp [hh])) he.2
          rw [e, this]
          have : ¬ ((a.length : Int) == -1) = true := by simp
          simp [this]
theorem first_at {c : UInt8} {l : Bs} (h : c ∈ l) : ∃ a r, c ∉ a ∧ l = a ++ c :: r := by
  obtain ⟨a, r, h1, h2⟩ := List.eq_append_cons_of_mem h
  exact ⟨a, r, h2, h1⟩
theorem countFrom_one (c : UInt8) : ∀ (fuel : Nat) (l : Bs), l.length < fuel → Lib.countFrom [c] fuel l = l.count c
  | 0, l, h => by omega
  | fuel + 1, l, h => by
    unfold Lib.countFrom
    by_cases hc : c ∈ l
    · obtain ⟨a, r, ha, rfl⟩ := first_at hc
      have hi := (index_one c (a ++ c :: r)).2 a r ha rfl
      have hne : ¬ ((a.length : Int) == -1) = true := by simp
      rw [hi, if_neg hne]
      have e : ((a ++ c :: r).drop ((a.length : Int).toNat + [c].length)) = r := by simp [← List.drop_drop]
      rw [e, countFrom_one c fuel r (by simp at h; omega), List.count_append, List.count_eq_zero.2 ha]
      simp; omega
    · rw [(index_one c l).1 hc]
      simp [List.count_eq_zero.2 hc]
theorem splitK_one (c : UInt8) : ∀ (k : Nat) (l : Bs), l.count c ≤ k → Lib.splitK [c] 0 k l = yaz c l
  | 0, l, h => by
    have hc : c ∉ l := List.count_eq_zero.1 (by omega)
    rw [splitL_none hc]; rfl
  | k + 1, l, h => by
    unfold Lib.splitK
    by_cases hc : c ∈ l
    · obtain ⟨a, r, ha, rfl⟩ := first_at hc
      have hi := (index_one c (a ++ c :: r)).2 a r ha rfl
      have hne : ¬ ((a.length : Int) == -1) = true := by simp
      rw [hi, if_neg hne]
      have e : ((a ++ c :: r).drop ((a.length : Int).toNat + [c].length)) = r := by simp [← List.drop_drop]
      rw [e, splitK_one c k r (by rw [List.count_append, List.count_eq_zero.2 ha] at h; simp at h; omega), splitL_at ha]
      simp
    · rw [(index_one c l).1 hc, splitL_none hc]; simp
theorem splitB_one (c : UInt8) (s : ByteArray) : Lib.splitB (ba [c]) 0 (Lib.countB s (ba [c])) s = (yaz c (bl s)).map ba ∧ Lib.countB s (ba [c]) + 1 = (yaz c (bl s)).length := by
  have hc : Lib.countB s (ba [c]) = (bl s).count c := by
    have : Lib.countB s (ba [c]) = Lib.count (bl s) (bl (ba [c])) := rfl
    rw [this, bl_ba]
    exact countFrom_one c _ _ (by omega)
  have h1 := Lib.splitB_data (ba [c]) 0 (Lib.countB s (ba [c])) s
  have h2 : (Lib.splitB (ba [c]) 0 (Lib.countB s (ba [c])) s).map bl = yaz c (bl s) := by
    have e : (ba [c]).data.toList = [c] := bl_ba [c]
    rw [e, splitK_one c _ _ (by rw [hc]; exact Nat.le_refl _)] at h1
    exact h1
  have h3 := Lib.splitB_all (ba [c]) (by simp [yda]) 0 _ s rfl
  refine ⟨?_, by rw [← h2]; simpa using h3.symm⟩
  rw [← h2, List.map_map]
  conv => lhs; rw [← List.map_id (Lib.splitB (ba [c]) 0 (Lib.countB s (ba [c])) s)]
  exact List.map_congr_left fun x _ => (ba_bl x).symm

def numGo : Nat → Bs → Option Nat
  | v, [] => some v
  | v, c :: r => if c.toNat < 48 ∨ 57 < c.toNat then none else numGo (10 * v + (c.toNat - 48)) r
def yfm (l : Bs) : Bool := decide (l.length < 1) || (decide (6 < l.length) || (decide (1 < l.length) && (l.head? == some 48)))
def ycb (l : Bs) : Option Nat := if yfm l then none else numGo 0 l
def linkF (w : Bs) : Option Lk := match yaz 47 w with
  | [a, b] => match ycb a, ycb b with
    | some x, some y => some ((x : Int), (y : Int))
    | _, _ => none
  | _ => none
def linksF : List Bs → Option (List Lk)
  | [] => some []
  | w :: ws => match linkF w, linksF ws with
    | some l, some ls => some (l :: ls)
    | _, _ => none
def nodeF (line : Bs) : Option (Nat × List Lk) := match yaz 32 line with
  | a :: b :: ws => if a = [110, 111, 100, 101] then match ycb b, linksF ws with
      | some x, some ls => some (x, ls)
      | _, _ => none
    else none
  | _ => none
def yex (t : Bs) : List Bs := if (yaz 10 t).getLast (splitL_ne 10 t) = [] then (yaz 10 t).dropLast else yaz 10 t
def nodesF : List Bs → Nat → Except Nat (List Int × List (List Lk))
  | [], _ => .ok ([], [])
  | l :: ls, i => match nodeF l with
    | none => .error (i + 1)
    | some (x, lk) => match nodesF ls (i + 1) with
      | .error k => .error k
      | .ok (a, b) => .ok ((x : Int) :: a, lk :: b)
theorem linesF_nil : yex [] = [] := by decide
theorem last_snoc {α : Type} {l : List α} {ds : List α} {x : α} (h : l = ds ++ [x]) (hne : l ≠ []) : l.getLast hne = x ∧ l.dropLast = ds := by subst h; simp
theorem linesF_trim {t : Bs} (h : t ≠ []) : yex t = yaz 10 (Lib.trimSuffix t [10]) := by
  obtain ⟨a, x, rfl⟩ : ∃ a x, t = a ++ [x] := ⟨t.dropLast, t.getLast h, (List.dropLast_concat_getLast h).symm⟩
  by_cases hx : x = 10
  · subst hx
    have h1 := splitL_snoc 10 a
    obtain ⟨h2, h3⟩ := last_snoc h1 (splitL_ne 10 _)
    have h4 : Lib.trimSuffix (a ++ [10]) [10] = a := by
      have : Lib.hasSuffix (a ++ [10]) [10] = true := by simp [Lib.hasSuffix]
      simp [Lib.trimSuffix, this]
    unfold yex
    rw [if_pos h2, h3, h4]
  · obtain ⟨ds, cur, hd⟩ : ∃ ds cur, yaz 10 a = ds ++ [cur] := ⟨_, _, (List.dropLast_concat_getLast (splitL_ne 10 a)).symm⟩
    have h1 := splitL_app (b := [x]) hd (by simpa using Ne.symm hx)
    obtain ⟨h2, h3⟩ := last_snoc h1 (splitL_ne 10 _)
    have h4 : Lib.trimSuffix (a ++ [x]) [10] = a ++ [x] := by
      have : Lib.hasSuffix (a ++ [x]) [10] = false := by
        rw [← Bool.not_eq_true]
        intro hs
        simp [Lib.hasSuffix, List.isSuffixOf] at hs
        exact hx hs.symm
      simp [Lib.trimSuffix, this]
    unfold yex
    rw [if_neg (by rw [h2]; simp), h4]
end Go.Proofs.YtmlkdoimkdbdpaaGreatDoor
set_option linter.unusedVariables false
namespace Go.Proofs.YtmlkdoimkdbdpaaGreatDoor

abbrev dec (v : Nat) : Bs := Lib.decDigits v
theorem dec_small {v : Nat} (h : v < 10) : dec v = [UInt8.ofNat (48 + v)] := by unfold dec; rw [Lib.decDigits, dif_pos h]
theorem dec_big {v : Nat} (h : ¬ v < 10) : dec v = dec (v / 10) ++ [UInt8.ofNat (48 + v % 10)] := by unfold dec; rw [Lib.decDigits, dif_neg h]
theorem digit_nat {d : Nat} (h : d < 10) : (UInt8.ofNat (48 + d)).toNat = 48 + d := by
  rw [UInt8.toNat_ofNat']; omega
theorem dec_digits (v : Nat) : ∀ c ∈ dec v, 48 ≤ c.toNat ∧ c.toNat ≤ 57 := by
  induction v using Nat.strongRecOn with
  | ind v ih =>
    intro c hc
    by_cases h : v < 10
    · rw [dec_small h] at hc
      simp only [List.mem_singleton] at hc
      subst hc
      rw [digit_nat h]; omega
    · rw [dec_big h] at hc
      rcases List.mem_append.1 hc with hc | hc
      · exact ih (v / 10) (by omega) c hc
      · simp only [List.mem_singleton] at hc
        subst hc
        rw [digit_nat (by omega)]; omega
theorem dec_pos (v : Nat) : 1 ≤ (dec v).length := by
  by_cases h : v < 10
  · rw [dec_small h]; simp
  · rw [dec_big h]; simp
theorem dec_len : ∀ (k v : Nat), 1 ≤ k → v < 10 ^ k → (dec v).length ≤ k
  | 0, v, h, _ => by omega
  | k + 1, v, _, hv => by
    by_cases h : v < 10
    · rw [dec_small h]; simp
    · rw [dec_big h]
      have hk : 1 ≤ k := by
        rcases Nat.eq_zero_or_pos k with h0 | h0
        · subst h0; simp at hv; omega
        · exact h0
      have := dec_len k (v / 10) hk (by rw [Nat.pow_succ] at hv; omega)
      simp; omega
theorem numGo_app : ∀ (l r : Bs) (a : Nat), numGo a (l ++ r) = match numGo a l with | some x => numGo x r | none => none
  | [], r, a => rfl
  | c :: l, r, a => by
    simp only [List.cons_append, numGo]
    split
    · rfl
    · exact numGo_app l r _
theorem numGo_dec (v : Nat) : numGo 0 (dec v) = some v := by
  induction v using Nat.strongRecOn with
  | ind v ih =>
    by_cases h : v < 10
    · rw [dec_small h]
      simp only [numGo, digit_nat h]
      rw [if_neg (by omega)]
      congr 1; omega
    · rw [dec_big h, numGo_app, ih (v / 10) (by omega)]
      simp only [numGo, digit_nat (show v % 10 < 10 by omega)]
      rw [if_neg (by omega)]
      congr 1; omega
theorem dec_head (v : Nat) (h0 : 1 ≤ v) : (dec v).head? ≠ some 48 := by
  induction v using Nat.strongRecOn with
  | ind v ih =>
    by_cases h : v < 10
    · rw [dec_small h]
      simp only [List.head?_cons, ne_eq, Option.some.injEq]
      intro e
      have := congrArg UInt8.toNat e
      rw [digit_nat h] at this
      simp at this; omega
    · rw [dec_big h]
      have hp := dec_pos (v / 10)
      have := ih (v / 10) (by omega) (by omega)
      cases hd : dec (v / 10) with
      | nil => rw [hd] at hp; simp at hp
      | cons c r => rw [hd] at this; simpa using this
theorem numberO_dec {v : Nat} (h : v < 1000000) : ycb (dec v) = some v := by
  have h1 := dec_pos v
  have h2 := dec_len 6 v (by omega) (by omega)
  have hb : yfm (dec v) = false := by
    have e1 : decide ((dec v).length < 1) = false := decide_eq_false (by omega)
    have e2 : decide (6 < (dec v).length) = false := decide_eq_false (by omega)
    simp only [yfm, e1, e2, Bool.false_or]
    by_cases h3 : v < 10
    · have : decide (1 < (dec v).length) = false := by rw [dec_small h3]; rfl
      rw [this, Bool.false_and]
    · rw [Bool.and_eq_false_iff]
      right
      rw [beq_eq_false_iff_ne]
      exact dec_head v (by omega)
  unfold ycb
  rw [hb]
  exact numGo_dec v
theorem dec_not (v : Nat) {c : UInt8} (hc : c.toNat < 48 ∨ 57 < c.toNat) : c ∉ dec v := fun h => by have := dec_digits v c h; omega

def glue (c : UInt8) (ws : List Bs) : Bs := ws.flatMap fun u => c :: u
theorem splitL_glue {c : UInt8} : ∀ {ws : List Bs} {w : Bs}, c ∉ w → (∀ u ∈ ws, c ∉ u) → yaz c (w ++ glue c ws) = w :: ws
  | [], w, hw, _ => by simp [glue, splitL_none hw]
  | u :: ws, w, hw, h => by
    have : w ++ glue c (u :: ws) = w ++ c :: (u ++ glue c ws) := by simp [glue]
    rw [this, splitL_at hw, splitL_glue (h u (by simp)) (fun x hx => h x (by simp [hx]))]
def unlines (ls : List Bs) : Bs := ls.flatMap fun l => l ++ [10]
theorem split_unlines : ∀ {ls : List Bs}, (∀ l ∈ ls, (10 : UInt8) ∉ l) → yaz 10 (unlines ls) = ls ++ [[]]
  | [], _ => rfl
  | l :: ls, h => by
    have : unlines (l :: ls) = l ++ 10 :: unlines ls := by simp [unlines]
    rw [this, splitL_at (h l (by simp)), split_unlines (fun x hx => h x (by simp [hx]))]
    rfl
theorem lines_unlines {ls : List Bs} (h : ∀ l ∈ ls, (10 : UInt8) ∉ l) : yex (unlines ls) = ls := by
  have h1 := split_unlines h
  obtain ⟨h2, h3⟩ := last_snoc h1 (splitL_ne 10 _)
  unfold yex
  rw [h2, h3, if_pos rfl]
theorem glue_len (c : UInt8) {n : Nat} : ∀ {ws : List Bs}, (∀ u ∈ ws, u.length ≤ n) → (glue c ws).length ≤ ws.length * (n + 1)
  | [], _ => by simp [glue]
  | u :: ws, h => by
    have h1 := h u (by simp)
    have h2 := glue_len c (fun x hx => h x (by simp [hx]) : ∀ x ∈ ws, x.length ≤ n)
    have : glue c (u :: ws) = c :: (u ++ glue c ws) := by simp [glue]
    rw [this, List.length_cons, List.length_append, List.length_cons, Nat.succ_mul]
    omega
theorem unlines_len {n : Nat} : ∀ {ls : List Bs}, (∀ u ∈ ls, u.length ≤ n) → (unlines ls).length ≤ ls.length * (n + 1)
  | [], _ => by simp [unlines]
  | u :: ws, h => by
    have h1 := h u (by simp)
    have h2 := unlines_len (fun x hx => h x (by simp [hx]) : ∀ x ∈ ws, x.length ≤ n)
    have : unlines (u :: ws) = u ++ 10 :: unlines ws := by simp [unlines]
    rw [this, List.length_append, List.length_cons, List.length_cons, Nat.succ_mul]
    omega
end Go.Proofs.YtmlkdoimkdbdpaaGreatDoor
set_option linter.unusedVariables false
set_option maxRecDepth 100000
set_option maxHeartbeats 4000000
namespace Go.Proofs.YtmlkdoimkdbdpaaGreatDoor
open Go.RowKit
def trueW : Bs := [116, 114, 117, 101]
def falseW : Bs := [102, 97, 108, 115, 101]
def noneW : Bs := [110, 111, 110, 101]
def ydg (kind v : Int) : Bs := if kind = 2 then (if v = 1 then trueW else falseW) else if kind = 3 ∧ v < 0 then noneW else Lib.itoa v
def joinW : List Bs → Bs
  | [] => []
  | w :: ws => w ++ glue 32 ws
def lineC (ks : List Int) (s : List Int) : Bs := joinW (List.zipWith ydg ks s)
def formatC (ks : List Int) (c : List (List Int)) : Bs := unlines (c.map (lineC ks))
def ycz (kind : Int) (w : Bs) : Option Int := if kind = 2 then (if w = trueW then some 1 else if w = falseW then some 0 else none) else if kind = 3 ∧ w = noneW then some (-1) else (ycb w).map fun n => (n : Int)
def valsW : List Int → List Bs → Option (List Int)
  | k :: ks, w :: ws => match ycz k w, valsW ks ws with
    | some v, some vs => some (v :: vs)
    | _, _ => none
  | _, _ => some []
def stateW (ks : List Int) (r : List (Int × Int)) (line : Bs) : Except Int (List Int) :=
  if (yaz 32 line).length ≠ ks.length then .error 4 else
  match valsW ks (yaz 32 line) with
  | none => .error 4
  | some vs => if yef r vs = true then .ok vs else .error 2
def ydf (ks : List Int) : List (List (Int × Int)) → List Bs → Nat → Except (Nat × Int) (List (List Int))
  | [], [], _ => .ok []
  | [], _ :: _, i => .error (i + 1, 4)
  | _ :: _, [], i => .error (i + 1, 4)
  | r :: t, l :: ls, i => match stateW ks r l with
    | .error e => .error (i + 1, e)
    | .ok s => match ydf ks t ls (i + 1) with
      | .error q => .error q
      | .ok c => .ok (s :: c)
def yba (p : ProgD) : List Int := p.vars.map (·.kind)
def parseT (p : ProgD) (g : GraphD) (t : Bs) : List (List Int) × Int × Int :=
  if ydl p g = 0 then
    if 16384 < t.length then ([], 0, 3) else
    match ydf (yba p) (ybc p g) (yex t) 0 with
    | .error q => ([], (q.1 : Int), q.2)
    | .ok c => (c, 0, 0)
  else ([], 0, ydl p g)
def ValOk (k v : Int) : Prop := (k = 2 → v = 0 ∨ v = 1) ∧ (k = 3 → -1 ≤ v ∧ v < 1000000) ∧ (k ≠ 2 → k ≠ 3 → 0 ≤ v ∧ v < 1000000)
theorem itoa_decN {n : Int} (h : 0 ≤ n) : Lib.itoa n = dec n.toNat := by
  unfold Lib.itoa; rw [if_neg (by omega)]
theorem wordV_two (v : Int) : ydg 2 v = if v = 1 then trueW else falseW := by simp [ydg]
theorem wordV_num {k v : Int} (h2 : k ≠ 2) (h : k = 3 → 0 ≤ v) (h0 : 0 ≤ v) : ydg k v = dec v.toNat := by
  unfold ydg; rw [if_neg h2, if_neg (by omega), itoa_decN h0]
theorem wordV_none {v : Int} (h : v < 0) : ydg 3 v = noneW := by simp [ydg, h]
theorem dec_ne_none (n : Nat) : dec n ≠ noneW := fun h => by
  have := dec_digits n 110 (by rw [h]; decide)
  simp at this
theorem value_word {k v : Int} (h : ValOk k v) : ycz k (ydg k v) = some v := by
  obtain ⟨h2, h3, h1⟩ := h
  by_cases k2 : k = 2
  · subst k2
    rcases h2 rfl with rfl | rfl
    · rw [wordV_two]; decide
    · rw [wordV_two]; decide
  · by_cases k3 : k = 3
    · subst k3
      obtain ⟨a, b⟩ := h3 rfl
      by_cases hv : v < 0
      · obtain rfl : v = -1 := by omega
        rw [wordV_none (by omega)]; decide
      · rw [wordV_num (by omega) (fun _ => by omega) (by omega), ycz, if_neg (by omega), if_neg (by rintro ⟨_, e⟩; exact dec_ne_none _ e), numberO_dec (by omega)]
        simp; omega
    · obtain ⟨a, b⟩ := h1 k2 k3
      rw [wordV_num k2 (fun e => absurd e k3) a, ycz, if_neg k2, if_neg (by omega), numberO_dec (by omega)]
      simp; omega
theorem word_not {k v : Int} (h : ValOk k v) {c : UInt8} (hc : c = 32 ∨ c = 10) : c ∉ ydg k v := by
  obtain ⟨h2, h3, h1⟩ := h
  by_cases k2 : k = 2
  · subst k2
    rw [wordV_two]
    rcases hc with rfl | rfl <;> split <;> decide
  · by_cases hv : k = 3 ∧ v < 0
    · rw [hv.1, wordV_none hv.2]
      rcases hc with rfl | rfl <;> decide
    · have h0 : 0 ≤ v := by
        by_cases k3 : k = 3
        · omega
        · exact (h1 k2 k3).1
      rw [wordV_num k2 (fun _ => h0) h0]
      exact dec_not _ (by rcases hc with rfl | rfl <;> decide)
theorem word_len {k v : Int} (h : ValOk k v) : (ydg k v).length ≤ 6 := by
  obtain ⟨h2, h3, h1⟩ := h
  by_cases k2 : k = 2
  · subst k2
    rw [wordV_two]
    split <;> decide
  · by_cases hv : k = 3 ∧ v < 0
    · rw [hv.1, wordV_none hv.2]; decide
    · have h0 : 0 ≤ v ∧ v < 1000000 := by
        by_cases k3 : k = 3
        · have := h3 k3; omega
        · exact h1 k2 k3
      rw [wordV_num k2 (fun _ => h0.1) h0.1]
      exact dec_len 6 _ (by decide) (by omega)
theorem split_join {ws : List Bs} (h0 : ws ≠ []) (h : ∀ w ∈ ws, (32 : UInt8) ∉ w) : yaz 32 (joinW ws) = ws := by
  cases ws with
  | nil => exact absurd rfl h0
  | cons w ws => exact splitL_glue (h w (by simp)) fun u hu => h u (by simp [hu])
theorem glue_not {c d : UInt8} (hcd : c ≠ d) {ws : List Bs} (h : ∀ w ∈ ws, d ∉ w) : d ∉ glue c ws := by
  intro hm
  obtain ⟨u, hu, hm⟩ := List.mem_flatMap.1 hm
  rcases List.mem_cons.1 hm with e | e
  · exact hcd e.symm
  · exact h u hu e
theorem join_not {ws : List Bs} (h : ∀ w ∈ ws, (10 : UInt8) ∉ w) : (10 : UInt8) ∉ joinW ws := by
  cases ws with
  | nil => simp [joinW]
  | cons w ws =>
    simp only [joinW, List.mem_append, not_or]
    exact ⟨h w (by simp), glue_not (by decide) fun u hu => h u (by simp [hu])⟩
def RowOkW (ks s : List Int) : Prop := s.length = ks.length ∧ ∀ (x : Nat) (k v : Int), ks[x]? = some k → s[x]? = some v → ValOk k v
theorem row_words {ks s : List Int} (h : RowOkW ks s) : ∀ w ∈ List.zipWith ydg ks s, ∃ k v, ValOk k v ∧ w = ydg k v := by
  intro w hw
  obtain ⟨x, hx⟩ := List.getElem?_of_mem hw
  rw [List.getElem?_zipWith] at hx
  cases hk : ks[x]? with
  | none => rw [hk] at hx; cases hx
  | some k =>
    cases hv : s[x]? with
    | none => rw [hk, hv] at hx; cases hx
    | some v => rw [hk, hv] at hx; cases hx; exact ⟨k, v, h.2 x k v hk hv, rfl⟩
theorem vals_words : ∀ {ks s : List Int}, RowOkW ks s → valsW ks (List.zipWith ydg ks s) = some s
  | [], [], _ => rfl
  | k :: ks, v :: s, h => by
    have h0 := h.2 0 k v rfl rfl
    have hr : RowOkW ks s := ⟨by simpa using h.1, fun x k' v' hk hv => h.2 (x + 1) k' v' (by simpa using hk) (by simpa using hv)⟩
    simp only [List.zipWith_cons_cons, valsW, value_word h0, vals_words hr]
  | [], _ :: _, h => by have := h.1; simp at this
  | _ :: _, [], h => by have := h.1; simp at this
theorem state_line {ks s : List Int} {r : List (Int × Int)} (h : RowOkW ks s) (h0 : ks ≠ []) (hr : yef r s = true) : stateW ks r (lineC ks s) = .ok s := by
  have hw := row_words h
  have hlen : (List.zipWith ydg ks s).length = ks.length := by simp [h.1]
  have hsp : yaz 32 (lineC ks s) = List.zipWith ydg ks s := split_join (by intro e; rw [e] at hlen; exact h0 (List.eq_nil_of_length_eq_zero hlen.symm)) fun w hm => by
    obtain ⟨k, v, hv, rfl⟩ := hw w hm
    exact word_not hv (.inl rfl)
  rw [stateW, hsp, if_neg (by simp [hlen]), vals_words h]
  simp only [hr, if_true]
theorem line_not {ks s : List Int} (h : RowOkW ks s) : (10 : UInt8) ∉ lineC ks s := join_not fun w hm => by
  obtain ⟨k, v, hv, rfl⟩ := row_words h w hm
  exact word_not hv (.inr rfl)
theorem parse_lines {ks : List Int} (h0 : ks ≠ []) : ∀ {t : List (List (Int × Int))} {c : List (List Int)} (i : Nat), yfi t c = true → (∀ s ∈ c, RowOkW ks s) → ydf ks t (c.map (lineC ks)) i = .ok c
  | [], [], i, _, _ => rfl
  | [], _ :: _, i, h, _ => by have := (cfg_get h).1; simp at this
  | _ :: _, [], i, h, _ => by have := (cfg_get h).1; simp at this
  | r :: t, s :: c, i, h, hr => by
    have hs : yef r s = true := by
      obtain ⟨x', h1, h2⟩ := (cfg_get h).2 0 r rfl
      simp only [List.getElem?_cons_zero, Option.some.injEq] at h1
      rw [h1]; exact h2
    have hc : yfi t c = true := by
      simp only [yfi, Bool.and_eq_true, List.zip_cons_cons, List.all_cons, beq_iff_eq, List.length_cons] at h ⊢
      exact ⟨by omega, h.2.2⟩
    simp only [List.map_cons, ydf, state_line (hr s (by simp)) h0 hs, parse_lines h0 (i + 1) hc fun x hx => hr x (by simp [hx])]
theorem line_len {ks s : List Int} (h : RowOkW ks s) : (lineC ks s).length ≤ 7 * s.length := by
  have hw : ∀ w ∈ List.zipWith ydg ks s, w.length ≤ 6 := fun w hm => by
    obtain ⟨k, v, hv, rfl⟩ := row_words h w hm
    exact word_len hv
  have hl : (List.zipWith ydg ks s).length = s.length := by simp [h.1]
  unfold lineC
  generalize List.zipWith ydg ks s = ws at *
  cases ws with
  | nil => simp [joinW]
  | cons w ws =>
    have h1 := hw w (by simp)
    have h2 := glue_len 32 (n := 6) (ws := ws) fun u hu => hw u (by simp [hu])
    simp only [joinW, List.length_append, List.length_cons] at hl ⊢
    omega
theorem valid_rows {p : ProgD} {g : GraphD} {c : List (List Int)} (hf : Fair p g) (h0 : ydl p g = 0) (hin : yfi (ybc p g) c = true) : ∀ s ∈ c, RowOkW (yba p) s := by
  obtain ⟨hc0, hg, hfit⟩ := fits_zero.1 h0
  intro s hs
  obtain ⟨v, hv⟩ := List.getElem?_of_mem hs
  obtain ⟨hlen, hget⟩ := cfg_get hin
  obtain ⟨r, hr⟩ := yeh (show v < (ybc p g).length by rw [← hlen]; exact (List.getElem?_eq_some_iff.1 hv).1)
  obtain ⟨s', hs', hst⟩ := hget v r hr
  rw [hv] at hs'
  cases hs'
  obtain ⟨hsl, hsg⟩ := state_get hst
  refine ⟨by rw [hsl, table_row hr]; simp [yba], fun x k z hk hz => ?_⟩
  obtain ⟨b, hb⟩ := yeh (show x < r.length by rw [← hsl]; exact (List.getElem?_eq_some_iff.1 hz).1)
  obtain ⟨z', hz', hz1, hz2⟩ := hsg x b hb
  rw [hz] at hz'
  cases hz'
  obtain ⟨ls, y, e1, e2, e3⟩ := table_inv hr hb
  rw [e3] at hz1 hz2
  have hll := hf.glen.2.2 ls (List.mem_of_getElem? e1)
  have hn := (yde hc0).2.2.2 y (List.mem_of_getElem? e2)
  have hb := bounds_bd (deg := ls.length) hn hg (by omega)
  have hky : k = y.kind := by simp only [yba, List.getElem?_map, e2, Option.map_some, Option.some.injEq] at hk; exact hk.symm
  have hnf := num_facts hn
  refine ⟨fun e => ?_, fun e => ?_, fun e1 e2 => ?_⟩
  · rw [hky] at e
    unfold ybe at hz1 hz2
    rw [if_pos e] at hz1 hz2
    simp only at hz1 hz2
    omega
  · rw [hky] at e
    rw [bounds_three e] at hz1 hz2
    simp only at hz1 hz2
    omega
  · have hb2 := hb.2.2.2
    unfold ybe at hz1 hz2 hb2
    rw [if_neg (by omega), if_neg (by omega)] at hz1 hz2 hb2
    simp only at hz1 hz2 hb2
    omega
theorem parse_format_C {p : ProgD} {g : GraphD} {c : List (List Int)} (hf : Fair p g) (h0 : ydl p g = 0) (hin : yfi (ybc p g) c = true) : (formatC (yba p) c).length ≤ 16384 ∧ parseT p g (formatC (yba p) c) = (c, 0, 0) := by
  obtain ⟨hc0, hg, hfit⟩ := fits_zero.1 h0
  have hrows := valid_rows hf h0 hin
  have hv1 := (yde hc0).1
  have hv2 := (yde hc0).2.1
  have hk0 : yba p ≠ [] := by intro e; have := congrArg List.length e; simp [yba] at this; rw [this] at hv1; simp at hv1
  have hkl : (yba p).length = p.vars.length := by simp [yba]
  have hcl : c.length ≤ 24 := by
    have := (cfg_get hin).1
    have h2 := (ycy hg).2.1
    simp [ybc] at this
    omega
  have hlen : (formatC (yba p) c).length ≤ 16384 := by
    have h1 := unlines_len (n := 42) (ls := c.map (lineC (yba p))) fun u hu => by
      obtain ⟨s, hs, rfl⟩ := List.mem_map.1 hu
      have h1 := line_len (hrows s hs)
      have h2 := (hrows s hs).1
      omega
    simp only [List.length_map] at h1
    unfold formatC
    omega
  refine ⟨hlen, ?_⟩
  rw [parseT, if_pos h0, if_neg (by omega)]
  have hl : yex (formatC (yba p) c) = c.map (lineC (yba p)) := lines_unlines fun l hl => by
    obtain ⟨s, hs, rfl⟩ := List.mem_map.1 hl
    exact line_not (hrows s hs)
  rw [hl, parse_lines hk0 0 hin hrows]
end Go.Proofs.YtmlkdoimkdbdpaaGreatDoor
namespace Go.Proofs.YtmlkdoimkdbdpaaGreatDoor
set_option maxRecDepth 100000
open Go.Shelf
def Tryz.laysM171_ren : Go.Shelf.Ren := ⟨fun | 171 => 42 | 243 => 59 | 246 => 74 | 283 => 90 | 284 => 91 | 285 => 92 | 286 => 93 | 129 => 108 | 317 => 107 | 318 => 109 | 319 => 110 | 320 => 111 | 337 => 138 | 338 => 139 | n => n, fun | 3 => 3 | 9 => 9 | 2 => 2 | 4 => 4 | 171 => 131 | 0 => 0 | 53 => 132 | 37 => 51 | 5 => 5 | 173 => 135 | 212 => 150 | 51 => 151 | 20 => 20 | 213 => 152 | 46 => 153 | 232 => 179 | 233 => 180 | n => n, fun | 17 => 0 | 18 => 4 | 19 => 5 | n => n⟩
theorem Tryz.laysM171 : Go.Proofs.LaysM.n171 Tryz.prog Tryz.laysM171_ren := {
  mixed := by kernel_rfl
  f129 := Tryz.func108.trans (congrArg some (by kernel_rfl))
  f171 := Tryz.func42.trans (congrArg some (by kernel_rfl))
  f243 := Tryz.func59.trans (congrArg some (by kernel_rfl))
  f246 := Tryz.func74.trans (congrArg some (by kernel_rfl))
  f283 := Tryz.func90.trans (congrArg some (by kernel_rfl))
  f284 := Tryz.func91.trans (congrArg some (by kernel_rfl))
  f285 := Tryz.func92.trans (congrArg some (by kernel_rfl))
  f286 := Tryz.func93.trans (congrArg some (by kernel_rfl))
  f317 := Tryz.func107.trans (congrArg some (by kernel_rfl))
  f318 := Tryz.func109.trans (congrArg some (by kernel_rfl))
  f319 := Tryz.func110.trans (congrArg some (by kernel_rfl))
  f320 := Tryz.func111.trans (congrArg some (by kernel_rfl))
  f337 := Tryz.func138.trans (congrArg some (by kernel_rfl))
  f338 := Tryz.func139.trans (congrArg some (by kernel_rfl))
  t0 := Tryz.underlying0
  a0 := Tryz.isAgg0
  z0 := Tryz.sizeOf0
  v0 := Tryz.zeroValue0
  t2 := Tryz.underlying2
  a2 := Tryz.isAgg2
  z2 := Tryz.sizeOf2
  v2 := Tryz.zeroValue2
  t3 := Tryz.underlying3
  a3 := Tryz.isAgg3
  z3 := Tryz.sizeOf3
  v3 := Tryz.zeroValue3
  t4 := Tryz.underlying4
  a4 := Tryz.isAgg4
  z4 := Tryz.sizeOf4
  v4 := Tryz.zeroValue4
  t5 := Tryz.underlying5
  a5 := Tryz.isAgg5
  z5 := Tryz.sizeOf5
  v5 := Tryz.zeroValue5
  t9 := Tryz.underlying9
  a9 := Tryz.isAgg9
  z9 := Tryz.sizeOf9
  v9 := Tryz.zeroValue9
  t20 := Tryz.underlying20
  a20 := Tryz.isAgg20
  z20 := Tryz.sizeOf20
  v20 := Tryz.zeroValue20
  t37 := Tryz.underlying51
  a37 := Tryz.isAgg51
  z37 := Tryz.sizeOf51
  v37 := Tryz.zeroValue51
  t46 := Tryz.underlying153
  a46 := Tryz.isAgg153
  z46 := Tryz.sizeOf153
  v46 := Tryz.zeroValue153
  t51 := Tryz.underlying151
  a51 := Tryz.isAgg151
  z51 := Tryz.sizeOf151
  v51 := Tryz.zeroValue151
  t53 := Tryz.underlying132
  a53 := Tryz.isAgg132
  z53 := Tryz.sizeOf132
  v53 := Tryz.zeroValue132
  t171 := Tryz.underlying131
  a171 := Tryz.isAgg131
  z171 := Tryz.sizeOf131
  v171 := Tryz.zeroValue131
  t173 := Tryz.underlying135
  a173 := Tryz.isAgg135
  z173 := Tryz.sizeOf135
  v173 := Tryz.zeroValue135
  t212 := Tryz.underlying150
  a212 := Tryz.isAgg150
  z212 := Tryz.sizeOf150
  v212 := Tryz.zeroValue150
  t213 := Tryz.underlying152
  a213 := Tryz.isAgg152
  z213 := Tryz.sizeOf152
  t232 := Tryz.underlying179
  a232 := Tryz.isAgg179
  z232 := Tryz.sizeOf179
  v232 := Tryz.zeroValue179
  t233 := Tryz.underlying180
  a233 := Tryz.isAgg180
  z233 := Tryz.sizeOf180
  v233 := Tryz.zeroValue180
  g17 := by kernel_rfl
  g18 := by kernel_rfl
  g19 := by kernel_rfl
  i0 := by kernel_rfl
  i2 := by kernel_rfl
  i3 := by kernel_rfl
  i4 := by kernel_rfl
  i5 := by kernel_rfl
  i9 := by kernel_rfl
  i20 := by kernel_rfl
  i37 := by kernel_rfl
  i46 := by kernel_rfl
  i51 := by kernel_rfl
  i53 := by kernel_rfl
  i171 := by kernel_rfl
  i173 := by kernel_rfl
  i212 := by kernel_rfl
  i232 := by kernel_rfl
  i233 := by kernel_rfl
  m17 := by kernel_rfl
  m18 := by kernel_rfl
  m19 := by kernel_rfl }
open Go.RowKit Go.Sort Go.Lib in
theorem Tryz.strconv_Itoa (n : Int) (h0 : -9223372036854775808 ≤ n) (h1 : n ≤ 9223372036854775807) (w : World) (htab : Lib.TabIs Tryz.prog w "internal/strconv.uint64pow10" .u64 Lib.pow10Tab) :
    Calls Tryz.prog 42 #[.int .i64 n] w fun e w' => e = .returned (.string ⟨(Lib.itoa n).toArray⟩) ∧ ∃ k os, w' = grow (w.drewN k) os := Any.strconv_Itoa Tryz.laysM171 n h0 h1 w htab
def Tryz.lays102_ren : Go.Shelf.Ren := ⟨fun | 102 => 48 | 209 => 68 | 207 => 83 | n => n, fun | 9 => 9 | 4 => 4 | 3 => 3 | n => n, fun | n => n⟩
theorem Tryz.lays102 : Go.Proofs.Lays.n102 Tryz.prog Tryz.lays102_ren := {
  mixed := by kernel_rfl
  f102 := Tryz.func48.trans (congrArg some (by kernel_rfl))
  f207 := Tryz.func83.trans (congrArg some (by kernel_rfl))
  f209 := Tryz.func68.trans (congrArg some (by kernel_rfl))
  t3 := Tryz.underlying3
  a3 := Tryz.isAgg3
  z3 := Tryz.sizeOf3
  v3 := Tryz.zeroValue3
  t4 := Tryz.underlying4
  a4 := Tryz.isAgg4
  z4 := Tryz.sizeOf4
  v4 := Tryz.zeroValue4
  t9 := Tryz.underlying9
  a9 := Tryz.isAgg9
  z9 := Tryz.sizeOf9
  v9 := Tryz.zeroValue9 }
open Go.RowKit Go.Lib in
theorem Tryz.strings_TrimSuffix (s p : ByteArray) (w : World) (hs : s.size ≤ 9223372036854775807) :
    Calls Tryz.prog 48 #[.string s, .string p] w fun e w' => e = .returned (.string ⟨(Lib.trimSuffix s.data.toList p.data.toList).toArray⟩) ∧ w' = w := Any.strings_TrimSuffix Tryz.lays102 s p w hs
def Tryz.lays146_ren : Go.Shelf.Ren := ⟨fun | 146 => 47 | 221 => 67 | 268 => 80 | 138 => 81 | 143 => 82 | 195 => 99 | 197 => 100 | 218 => 101 | 219 => 102 | 260 => 120 | 217 => 121 | 225 => 122 | 224 => 123 | 267 => 124 | 266 => 149 | 314 => 150 | n => n, fun | 9 => 9 | 31 => 65 | 3 => 3 | 4 => 4 | 0 => 0 | 105 => 144 | 21 => 21 | 5 => 5 | 46 => 153 | 119 => 172 | 139 => 175 | 138 => 174 | 146 => 176 | 51 => 151 | n => n, fun | 1 => 1 | 3 => 2 | 4 => 3 | n => n⟩
theorem Tryz.lays146 : Go.Proofs.Lays.n146 Tryz.prog Tryz.lays146_ren := {
  mixed := by kernel_rfl
  f138 := Tryz.func81.trans (congrArg some (by kernel_rfl))
  f143 := Tryz.func82.trans (congrArg some (by kernel_rfl))
  f146 := Tryz.func47.trans (congrArg some (by kernel_rfl))
  f195 := Tryz.func99.trans (congrArg some (by kernel_rfl))
  f197 := Tryz.func100.trans (congrArg some (by kernel_rfl))
  f217 := Tryz.func121.trans (congrArg some (by kernel_rfl))
  f218 := Tryz.func101.trans (congrArg some (by kernel_rfl))
  f219 := Tryz.func102.trans (congrArg some (by kernel_rfl))
  f221 := Tryz.func67.trans (congrArg some (by kernel_rfl))
  f224 := Tryz.func123.trans (congrArg some (by kernel_rfl))
  f225 := Tryz.func122.trans (congrArg some (by kernel_rfl))
  f260 := Tryz.func120.trans (congrArg some (by kernel_rfl))
  f266 := Tryz.func149.trans (congrArg some (by kernel_rfl))
  f267 := Tryz.func124.trans (congrArg some (by kernel_rfl))
  f268 := Tryz.func80.trans (congrArg some (by kernel_rfl))
  f314 := Tryz.func150.trans (congrArg some (by kernel_rfl))
  t0 := Tryz.underlying0
  a0 := Tryz.isAgg0
  z0 := Tryz.sizeOf0
  v0 := Tryz.zeroValue0
  t3 := Tryz.underlying3
  a3 := Tryz.isAgg3
  z3 := Tryz.sizeOf3
  v3 := Tryz.zeroValue3
  t4 := Tryz.underlying4
  a4 := Tryz.isAgg4
  z4 := Tryz.sizeOf4
  v4 := Tryz.zeroValue4
  t5 := Tryz.underlying5
  a5 := Tryz.isAgg5
  z5 := Tryz.sizeOf5
  v5 := Tryz.zeroValue5
  t9 := Tryz.underlying9
  a9 := Tryz.isAgg9
  z9 := Tryz.sizeOf9
  v9 := Tryz.zeroValue9
  t21 := Tryz.underlying21
  a21 := Tryz.isAgg21
  z21 := Tryz.sizeOf21
  v21 := Tryz.zeroValue21
  t31 := Tryz.underlying65
  a31 := Tryz.isAgg65
  z31 := Tryz.sizeOf65
  v31 := Tryz.zeroValue65
  t46 := Tryz.underlying153
  a46 := Tryz.isAgg153
  z46 := Tryz.sizeOf153
  v46 := Tryz.zeroValue153
  t51 := Tryz.underlying151
  a51 := Tryz.isAgg151
  z51 := Tryz.sizeOf151
  v51 := Tryz.zeroValue151
  t105 := Tryz.underlying144
  a105 := Tryz.isAgg144
  z105 := Tryz.sizeOf144
  v105 := Tryz.zeroValue144
  t119 := Tryz.underlying172
  a119 := Tryz.isAgg172
  z119 := Tryz.sizeOf172
  t138 := Tryz.underlying174
  a138 := Tryz.isAgg174
  z138 := Tryz.sizeOf174
  v138 := Tryz.zeroValue174
  t139 := Tryz.underlying175
  a139 := Tryz.isAgg175
  z139 := Tryz.sizeOf175
  v139 := Tryz.zeroValue175
  t146 := Tryz.underlying176
  a146 := Tryz.isAgg176
  z146 := Tryz.sizeOf176
  v146 := Tryz.zeroValue176
  g1 := by kernel_rfl
  g3 := by kernel_rfl
  g4 := by kernel_rfl }
open Go.RowKit Go.Lib in
theorem Tryz.strings_Split (s sep : ByteArray) (m : Int) (w : World) (hs : s.size < 4294967281) (hm : w.cell? ⟨1, 0, none⟩ = some (.int .i64 m)) (h1 : 1 ≤ sep.size) :
    Calls Tryz.prog 47 #[.string s, .string sep] w fun e w' =>
      e = .returned (.slice (some ⟨w.heap.size, 0, none⟩) (Lib.countB s sep + 1) (Lib.countB s sep + 1)) ∧ w' = w.alloc (.cells ((Lib.splitB sep 0 (Lib.countB s sep) s).map Value.string).toArray 9) := Any.strings_Split Tryz.lays146 (by kernel_rfl) s sep m w hs hm h1
end Go.Proofs.YtmlkdoimkdbdpaaGreatDoor
set_option linter.unusedVariables false
set_option maxRecDepth 100000
set_option maxHeartbeats 4000000
namespace Go.Proofs.YtmlkdoimkdbdpaaGreatDoor
open Go.RowKit
def bp (used : Bool) (id : Nat) : AV := match used with
  | true => .lp id 0
  | false => .v (.pointer none)
def bldH (used : Bool) (l : Bs) : List (Nat × Option LObj) := [(1001, some (.tcells 53 [bp used 1001, .ls 1003 1 l.length])), (1003, some (.tvec 5 (ydh l)))]
theorem pt_builder : Tryz.prog.underlying 50 = some (.pointer 53) := Tryz.underlying50
theorem bld_cl {u v : Bool} {l m : Bs} {N : Nat} (hN : N ≤ 1001) : ∀ id o, yap (bldH v m) id = some o → isC o = true → N ≤ id ∧ ∃ o', yap (bldH u l) id = some o' ∧ isC o' = true := by
  intro id o ho hc
  simp only [bldH, yap] at ho ⊢
  cases h1 : Nat.beq id 1001 with
  | true =>
    have := Nat.eq_of_beq_eq_true h1
    exact ⟨by omega, _, rfl, rfl⟩
  | false =>
    simp only [h1] at ho
    cases h2 : Nat.beq id 1003 with
    | true => simp only [h2, Option.some.injEq] at ho; subst ho; cases hc
    | false => simp only [h2] at ho; cases ho
theorem copyCheck_con (u : Bool) (l : Bs) : ConM Tryz.prog 41 [.lp 1001 0] (yap (bldH u l)) (.tup []) (yap (bldH true l)) := by
  refine conM_of tok Tryz.func41 rfl rfl Tryz.ntmps41 Tryz.results41 rfl (bld_cl (by decide)) ?_
  show A _ _ _ _ (S _ _)
  cases u
  · (repeat (first | refine zI ?_ | refine zL ?_ | refine zC ?_ | refine yai ?_ | refine yaj ?_ | refine zR ?_ | refine zD ?_ | refine zK ?_ | refine zB ?_ | refine zA ?_ | refine zS ?_ | refine zU ?_ | refine zV ?_ | refine zF ?_ | with_reducible refine yac ?_ | with_reducible refine yag ?_ | refine yad ?_ | refine yae ?_ | refine yaf ?_ | refine zT ?_ | refine zE ?_ | refine zX ?_ | refine L_nilCheck rfl rfl rfl rfl ?_ | refine yca (yield_eqlNil pt_builder rfl rfl) rfl rfl ?_))
    refine yca (yield_toUnsafe (te := 53) (xs := [bp false 1001, .ls 1003 1 l.length]) (t0 := 53) pt_builder Tryz.underlying108 (by kernel_rfl) rfl rfl (Nat.zero_lt_succ _)) rfl rfl ?_
    (repeat (first | refine zI ?_ | refine zL ?_ | refine zC ?_ | refine yai ?_ | refine yaj ?_ | refine zR ?_ | refine zD ?_ | refine zK ?_ | refine zB ?_ | refine zA ?_ | refine zS ?_ | refine zU ?_ | refine zV ?_ | refine zF ?_ | with_reducible refine yac ?_ | with_reducible refine yag ?_ | refine yad ?_ | refine yae ?_ | refine yaf ?_ | refine zT ?_ | refine zE ?_ | refine zX ?_ | refine L_nilCheck rfl rfl rfl rfl ?_ | refine yca (yield_eqlNil pt_builder rfl rfl) rfl rfl ?_ | refine yca (yield_toUnsafe (t0 := 53) pt_builder Tryz.underlying108 (by kernel_rfl) rfl rfl (Nat.zero_lt_succ _)) rfl rfl ?_ | refine yca (yield_fromUnsafe (t0 := 53) Tryz.underlying108 pt_builder (by kernel_rfl) rfl rfl (by simp) (by kernel_rfl)) rfl rfl ?_ | refine yca (yield_noEscape Tryz.func58 (by kernel_rfl) (by kernel_rfl) (by kernel_rfl) (by kernel_rfl) rfl) rfl rfl ?_ | refine L_storeT tok rfl rfl rfl rfl rfl rfl (by simp) rfl rfl rfl ?_))
    exact ⟨_, rfl, wk_refl _, yen (yaa rfl (yaa rfl yab))⟩
  · (repeat (first | refine zI ?_ | refine zL ?_ | refine zC ?_ | refine yai ?_ | refine yaj ?_ | refine zR ?_ | refine zD ?_ | refine zK ?_ | refine zB ?_ | refine zA ?_ | refine zS ?_ | refine zU ?_ | refine zV ?_ | refine zF ?_ | with_reducible refine yac ?_ | with_reducible refine yag ?_ | refine yad ?_ | refine yae ?_ | refine yaf ?_ | refine zT ?_ | refine zE ?_ | refine zX ?_ | refine L_nilCheck rfl rfl rfl rfl ?_ | refine yca (yield_eqlLp pt_builder rfl rfl rfl) rfl rfl ?_ | refine yca (yield_neqLp pt_builder (by kernel_rfl) rfl rfl rfl) rfl rfl ?_))
    exact ⟨_, rfl, wk_refl _, yen (yaa rfl (yaa rfl yab))⟩

def lfU (o : Oper) : Bool := loudOp o.op || match o.op with
  | .call ⟨.builtin .unsafeString, _, _⟩ => true
  | _ => false
theorem writeString_con (u : Bool) (l : Bs) (s : ByteArray) (hl : l.length + s.size ≤ 1000000) : ConM Tryz.prog 20 [.lp 1001 0, yfd s] (yap (bldH u l)) (.tup [i64 s.size, .v .nilIface]) (yap (bldH true (l ++ bl s))) := by
  refine conM_of tok Tryz.func20 rfl rfl Tryz.ntmps20 Tryz.results20 rfl (bld_cl (by decide)) ?_
  show A _ _ _ _ (S _ _)
  (repeat (first | refine zI ?_ | refine zL ?_ | refine zC ?_ | refine yai ?_ | refine yaj ?_ | refine zR ?_ | refine zD ?_ | refine zK ?_ | refine zB ?_ | refine zA ?_ | refine zS ?_ | refine zU ?_ | refine zV ?_ | refine zF ?_ | with_reducible refine yac ?_ | with_reducible refine yag ?_ | refine yad ?_ | refine yae ?_ | refine yaf ?_ | refine zT ?_ | refine zE ?_ | refine zX ?_))
  cases u
  all_goals
    first | refine L_callM [(1001, 1001), (1003, 1003)] (copyCheck_con false l) rfl rfl rfl rfl rfl rfl rfl (yaa rfl (yaa rfl yab)) rfl rfl rfl rfl rfl rfl ?_ | refine L_callM [(1001, 1001), (1003, 1003)] (copyCheck_con true l) rfl rfl rfl rfl rfl rfl rfl (yaa rfl (yaa rfl yab)) rfl rfl rfl rfl rfl rfl ?_
    (repeat (first | refine zI ?_ | refine zL ?_ | refine zC ?_ | refine yai ?_ | refine yaj ?_ | refine zR ?_ | refine zD ?_ | refine zK ?_ | refine zB ?_ | refine zA ?_ | refine zS ?_ | refine zU ?_ | refine zV ?_ | refine zF ?_ | with_reducible refine yac ?_ | with_reducible refine yag ?_ | refine yad ?_ | refine yae ?_ | refine yaf ?_ | refine zT ?_ | refine zE ?_ | refine zX ?_ | refine L_nilCheck rfl rfl rfl rfl ?_))
    refine L_appendS tok rfl rfl rfl rfl rfl (by simp [bytesA_len]) rfl (by omega) rfl rfl rfl rfl rfl ?_
    (repeat (first | refine zI ?_ | refine zL ?_ | refine zC ?_ | refine yai ?_ | refine yaj ?_ | refine zR ?_ | refine zD ?_ | refine zK ?_ | refine zB ?_ | refine zA ?_ | refine zS ?_ | refine zU ?_ | refine zV ?_ | refine zF ?_ | with_reducible refine yac ?_ | with_reducible refine yag ?_ | refine yad ?_ | refine yae ?_ | refine yaf ?_ | refine zT ?_ | refine zE ?_ | refine zX ?_ | refine L_nilCheck rfl rfl rfl rfl ?_ | refine L_storeT tok rfl rfl rfl rfl rfl rfl (by simp) rfl rfl rfl ?_))
    refine yas ?_
    refine ⟨_, rfl, wk_refl _, yen (yaa ?_ (yaa ?_ yab))⟩
    · have e : l.length + s.size = (l ++ bl s).length := by simp [bl, ← ByteArray.size_data]
      rw [← e]; rfl
    · have e : ydh (l ++ bl s) = ydh l ++ ydh s.data.toList := by rw [bytesA_app]; rfl
      rw [e]; rfl
theorem string_con (u : Bool) (l : Bs) (h0 : l ≠ []) (hl : l.length ≤ 1000000) : ConM Tryz.prog 22 [.lp 1001 0] (yap (bldH u l)) (yfd (ba l)) (yap []) := by
  refine conM_of tok Tryz.func22 rfl rfl Tryz.ntmps22 Tryz.results22 rfl (fun id o h => by simp [yap] at h) ?_
  show A _ _ _ _ (S _ _)
  obtain ⟨x, r, rfl⟩ : ∃ x r, l = x :: r := by cases l with | nil => exact absurd rfl h0 | cons x r => exact ⟨x, r, rfl⟩
  (repeat (first | refine zI ?_ | refine zL ?_ | refine zC ?_ | refine yai ?_ | refine yaj ?_ | refine zR ?_ | refine zK ?_ | refine zB ?_ | refine zA ?_ | refine zS ?_ | refine zU ?_ | refine zV ?_ | refine zF ?_ | with_reducible refine yac ?_ | with_reducible refine yag ?_ | refine yad ?_ | refine yae ?_ | refine yaf ?_ | refine zT ?_ | refine zE ?_ | refine zX ?_))
  refine A_region_drawn (lf := lfU) mixed (by kernel_rfl) rfl ?_
  (repeat (first | refine zI ?_ | refine zL ?_ | refine zC ?_ | refine yai ?_ | refine yaj ?_ | refine zR ?_ | refine zK ?_ | refine zB ?_ | refine zA ?_ | refine zS ?_ | refine zU ?_ | refine zV ?_ | refine zF ?_ | with_reducible refine yac ?_ | with_reducible refine yag ?_ | refine yad ?_ | refine yae ?_ | refine yaf ?_ | refine zT ?_ | refine zE ?_ | refine zX ?_ | refine L_nilCheck rfl rfl rfl rfl ?_ | refine L_sliceData rfl rfl (by simp) rfl rfl ?_))
  refine L_unsafeString (l := x :: r) Tryz.underlying97 (by kernel_rfl) rfl rfl rfl (by simp) (by omega) rfl rfl rfl ?_
  (repeat (first | refine zI ?_ | refine zL ?_ | refine zC ?_ | refine yai ?_ | refine yaj ?_ | refine zR ?_ | refine zK ?_ | refine zB ?_ | refine zA ?_ | refine zS ?_ | refine zU ?_ | refine zV ?_ | refine zF ?_ | with_reducible refine yac ?_ | with_reducible refine yag ?_ | refine yad ?_ | refine yae ?_ | refine yaf ?_ | refine zT ?_ | refine zE ?_ | refine zX ?_))
  refine yas ?_
  exact ⟨_, rfl, wk_refl _, fun id o h => by cases h⟩

variable {N : Nat} {ops : Array Oper} {lf : Oper → Bool} {Q : SS → Prop} {t : List (Nat × AV)} {h : List (Nat × Option LObj)} {rest : List Oper} {d : Nat} {ty : TypeId} {pos : String} {af : Array Edge} {gd : Option (Nat × Bool)}
def bldO (u : Bool) (b i : Nat) (l : Bs) : LObj := .tcells 53 [bp u b, .ls i 1 l.length]
def bytesO (l : Bs) : LObj := .tvec 5 (ydh l)
theorem renO_bld (u : Bool) (b i : Nat) (l : Bs) : renO (slook [(1001, b), (1003, i)]) (.tcells 53 [bp u 1001, .ls 1003 1 l.length]) = bldO u b i l := by cases u <;> rfl
theorem L_write (u : Bool) (b i : Nat) (l : Bs) (s : ByteArray) (m : Bs) {g : Operand} {args : List Operand} {ats : Array TypeId} {h' : List (Nat × Option LObj)} (hm : m = bl s) (hl0 : l.length + s.size ≤ 1000000)
    (hg : evF (look t) g = some (.fn 20 [])) (hx : evL (evF (look t)) args = some [.lp b 0, yfd s]) (hv : yfl [b, i] = true) (hb : yap h b = some (bldO u b i l)) (hi : yap h i = some (bytesO l)) (hh : forgHs [b, i] (dropK [b, i] h) = some h')
    (hl : lf ⟨some d, .call { callee := .value g, args := args.toArray, argTypes := ats }, ty, pos, af, gd⟩ = true) (hw : yax ops (look t) ⟨some d, .call { callee := .value g, args := args.toArray, argTypes := ats }, ty, pos, af, gd⟩ = some true) (hd : Nat.blt d N = true)
    (k : Lex Tryz.prog N ops lf Q rest (S ((d, .tup [i64 s.size, .v .nilIface]) :: forgTM [(1001, b), (1003, i)] (bldH true (l ++ bl s)) t) ((b, some (bldO true b i (l ++ m))) :: (i, some (bytesO (l ++ m))) :: h'))) : Lex Tryz.prog N ops lf Q (⟨some d, .call { callee := .value g, args := args.toArray, argTypes := ats }, ty, pos, af, gd⟩ :: rest) (S t h) := by
  subst hm
  refine L_callM [(1001, b), (1003, i)] (writeString_con u l s hl0) hg hx rfl rfl hv rfl rfl (yaa ?_ (yaa ?_ yab)) rfl (by cases u <;> rfl) hh hl hw hd ?_
  · rw [renO_bld]; exact hb
  · exact hi
  · exact k
theorem L_built (u : Bool) (b i : Nat) (l : Bs) {g : Operand} {args : List Operand} {ats : Array TypeId} {h' : List (Nat × Option LObj)} (h0 : l ≠ []) (hl0 : l.length ≤ 1000000)
    (hg : evF (look t) g = some (.fn 22 [])) (hx : evL (evF (look t)) args = some [.lp b 0]) (hv : yfl [b, i] = true) (hb : yap h b = some (bldO u b i l)) (hi : yap h i = some (bytesO l)) (hh : forgHs [b, i] (dropK [b, i] h) = some h')
    (hl : lf ⟨some d, .call { callee := .value g, args := args.toArray, argTypes := ats }, ty, pos, af, gd⟩ = true) (hw : yax ops (look t) ⟨some d, .call { callee := .value g, args := args.toArray, argTypes := ats }, ty, pos, af, gd⟩ = some true) (hd : Nat.blt d N = true)
    (k : Lex Tryz.prog N ops lf Q rest (S ((d, yfd (ba l)) :: forgTM [(1001, b), (1003, i)] [] t) ((b, none) :: (i, none) :: h'))) : Lex Tryz.prog N ops lf Q (⟨some d, .call { callee := .value g, args := args.toArray, argTypes := ats }, ty, pos, af, gd⟩ :: rest) (S t h) := by
  refine L_callM [(1001, b), (1003, i)] (string_con u l h0 hl0) hg hx rfl rfl hv rfl rfl (yaa ?_ (yaa ?_ yab)) rfl rfl hh hl hw hd ?_
  · rw [renO_bld]; exact hb
  · exact hi
  · exact k
theorem A_builder {N : Nat} {Q : Exit → SS → Prop} (b i : Nat) {c : Code} (hj : yap h b = some (.tcells 53 (vMap [.pointer none, .slice none 0 0]))) (h1 : freshT i t = true) (h2 : ycr i h = true) (hne : Nat.beq b i = false) (k : A Tryz.prog N c Q (S t ((b, some (bldO false b i [])) :: (i, some (bytesO [])) :: h))) : A Tryz.prog N c Q (S t h) :=
  A_ownCT b 1 i 1 5 hj rfl h1 h2 hne k
theorem itoa_con (n : Int) (h0 : -9223372036854775808 ≤ n) (h1 : n ≤ 9223372036854775807) : Con Tryz.prog 42 [i64 n] (yfd (ba (Lib.itoa n))) := by
  refine ⟨⟨_, Tryz.func42, rfl, rfl⟩, rfl, fun ok0 w us hG hok h => ?_⟩
  obtain ⟨u, rfl, h2⟩ := relAll1 h
  cases h2
  refine (Tryz.strconv_Itoa n h0 h1 w hG.2).mono ?_
  rintro e w' ⟨rfl, k, os, rfl⟩
  refine ⟨_, rfl, .v _, ⟨rfl, rfl, rfl, ?_, fun j hj => ?_⟩⟩
  · show w.heap.size ≤ (w.heap ++ os).size
    rw [Array.size_append]; omega
  · show (w.heap ++ os)[j]? = w.heap[j]?
    rw [Array.getElem?_append_left hj]
end Go.Proofs.YtmlkdoimkdbdpaaGreatDoor
