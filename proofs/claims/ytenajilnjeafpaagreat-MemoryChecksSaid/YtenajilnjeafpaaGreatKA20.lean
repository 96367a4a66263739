/- Part 20 of the texts under MemoryChecks: joined, with what it needs alone. -/
import Derived.Test.YtenajilnjeafpaaGreatRows
import Derived.Test.YtenajilnjeafpaaGreatKA5
import Derived.Test.YtenajilnjeafpaaGreatKA8
import Derived.Test.YtenajilnjeafpaaGreatKA11
import Derived.Test.YtenajilnjeafpaaGreatKA15
import Derived.Test.YtenajilnjeafpaaGreatKA18
import Derived.Test.YtenajilnjeafpaaGreatKA19
set_option linter.unusedVariables false
set_option maxRecDepth 100000
set_option maxHeartbeats 8000000
namespace Go.Proofs.YtenajilnjeafpaaGreat
open Go.RowKit
def wOk (b : Int × Int) : Prop := 1 ≤ rgW b ∧ rgW b ≤ 1000002
theorem rgOk_w {b : Int × Int} (h : RgOk b) : wOk b := by obtain ⟨h1, h2, h3⟩ := h; unfold wOk rgW; omega
def satStep (n : Int) (b : Int × Int) : Int := if (1073741824 : Int) < n * rgW b then 1073741824 else n * rgW b
theorem mul_ge {n w : Int} (h1 : 1 ≤ n) (hw : 1 ≤ w) : n ≤ n * w := by
  have := Int.mul_le_mul_of_nonneg_left hw (show 0 ≤ n by omega); simpa using this
theorem sat_ge : ∀ (r : List (Int × Int)) (n : Int), 1 ≤ n → n ≤ 1073741824 → (∀ b ∈ r, wOk b) → n ≤ r.foldl satStep n ∧ r.foldl satStep n ≤ 1073741824
  | [], n, h1, h2, _ => ⟨Int.le_refl _, h2⟩
  | b :: r, n, h1, h2, hw => by
    have hb := mul_ge h1 (hw b (by simp)).1
    simp only [List.foldl_cons]
    by_cases h : (1073741824 : Int) < n * rgW b
    · rw [satStep, if_pos h]
      have := sat_ge r 1073741824 (by omega) (by omega) fun x hx => hw x (by simp [hx])
      omega
    · rw [satStep, if_neg h]
      have := sat_ge r (n * rgW b) (by omega) (by omega) fun x hx => hw x (by simp [hx])
      omega
theorem sat_cnt : ∀ (r : List (Int × Int)) (n : Int), 1 ≤ n → n ≤ 32768 → (∀ b ∈ r, wOk b) → (∀ q, cntL n r = some q → r.foldl satStep n = q ∧ q ≤ 32768) ∧ (cntL n r = none → 32768 < r.foldl satStep n)
  | [], n, h1, h2, _ => ⟨fun q h => by simp only [cntL, Option.some.injEq] at h; subst h; exact ⟨rfl, h2⟩, fun h => by cases h⟩
  | b :: r, n, h1, h2, hw => by
    have hb := mul_ge h1 (hw b (by simp)).1
    have hr : ∀ x ∈ r, wOk x := fun x hx => hw x (by simp [hx])
    by_cases h : 32768 < n * (b.2 - b.1 + 1)
    · refine ⟨fun q hq => (by simp only [cntL, if_pos h] at hq; cases hq), fun _ => ?_⟩
      simp only [List.foldl_cons, satStep]
      by_cases h3 : (1073741824 : Int) < n * rgW b
      · rw [if_pos h3]
        have := sat_ge r 1073741824 (by omega) (by omega) hr
        omega
      · rw [if_neg h3]
        have := sat_ge r (n * rgW b) (by omega) (by omega) hr
        unfold rgW at this hb h3 ⊢
        omega
    · have e : satStep n b = n * (b.2 - b.1 + 1) := by unfold satStep rgW; rw [if_neg (by omega)]
      have ih := sat_cnt r (n * (b.2 - b.1 + 1)) (by unfold rgW at hb; omega) (by omega) hr
      simp only [List.foldl_cons, cntL, if_neg h, e]
      exact ih
theorem cnt_scale : ∀ (r : List (Int × Int)) (n m : Int), 1 ≤ n → 1 ≤ m → (∀ b ∈ r, wOk b) → n * m ≤ 32768 → cntL (n * m) r = match cntL m r with
    | some q => if 32768 < n * q then none else some (n * q)
    | none => none
  | [], n, m, hn, hm, _, h => by simp only [cntL]; rw [if_neg (by omega)]
  | b :: r, n, m, hn, hm, hw, h => by
    have hb := mul_ge hm (hw b (by simp)).1
    have hr : ∀ x ∈ r, wOk x := fun x hx => hw x (by simp [hx])
    have hnm : n * m * (b.2 - b.1 + 1) = n * (m * (b.2 - b.1 + 1)) := Int.mul_assoc _ _ _
    have hpos : 1 ≤ m * (b.2 - b.1 + 1) := by unfold rgW at hb; omega
    have hle : m * (b.2 - b.1 + 1) ≤ n * (m * (b.2 - b.1 + 1)) := by
      have := Int.mul_le_mul_of_nonneg_right hn (show 0 ≤ m * (b.2 - b.1 + 1) by omega)
      simpa using this
    simp only [cntL]
    rw [hnm]
    by_cases h1 : 32768 < m * (b.2 - b.1 + 1)
    · rw [if_pos h1, if_pos (by omega)]
    · rw [if_neg h1]
      by_cases h2 : 32768 < n * (m * (b.2 - b.1 + 1))
      · rw [if_pos h2]
        cases hq : cntL (m * (b.2 - b.1 + 1)) r with
        | none => rfl
        | some q =>
          have hge : m * (b.2 - b.1 + 1) ≤ q := by
            have e := ((sat_cnt r (m * (b.2 - b.1 + 1)) hpos (by omega) hr).1 q hq).1
            have := (sat_ge r (m * (b.2 - b.1 + 1)) hpos (by omega) hr).1
            omega
          have : n * (m * (b.2 - b.1 + 1)) ≤ n * q := Int.mul_le_mul_of_nonneg_left hge (by omega)
          simp only
          rw [if_pos (by omega)]
      · rw [if_neg h2]
        exact cnt_scale r n _ hn hpos hr (by omega)
theorem size_table {p : ProgD} {g : GraphD} {v : Nat} {r : List (Int × Int)} (h0 : fitsF p g = 0) (hr : (tableF p g)[v]? = some r) : sizeF p g v = r.foldl satStep 1 := by
  simp only [tableF, List.getElem?_map] at hr
  cases hg : g.ports[v]? with
  | none => rw [hg] at hr; cases hr
  | some ls =>
    rw [hg] at hr
    cases hr
    have hv := (List.getElem?_eq_some_iff.1 hg).1
    have hd : degAt g v = ls.length := deg_at (by simpa using hg)
    rw [sizeF, if_pos h0, if_pos (by omega), List.foldl_map, hd]
    rfl
theorem rcount_con (p : ProgD) (g : GraphD) (hf : Fair p g) : Con Tryz.prog 14 [encP p, encG g] (pairI (countM p g)) := by
  have hgl := hf.glen
  refine con_of Tryz.func14 rfl rfl Tryz.ntmps14 Tryz.results14 rfl rfl ?_
  (repeat (first | refine zI ?_ | refine zL ?_ | refine zC ?_ | refine L_nil ?_ | refine A_seq ?_ | refine zR ?_ | refine zD ?_ | refine zK ?_ | refine zB ?_ | refine zA ?_ | refine zS ?_ | refine zU ?_ | refine zV ?_ | refine zF ?_ | with_reducible refine inblk_n ?_ | with_reducible refine then_n ?_ | refine A_block ?_ | refine A_skip ?_ | refine A_exit ?_ | refine zT ?_ | refine zE ?_ | refine zX ?_ | refine L_call rfl rfl (rfits_con p g hf) rfl rfl ?_))
  refine A_cond rfl (fun h => ?_) (fun h => ?_)
  · (repeat (first | refine zI ?_ | refine zL ?_ | refine zC ?_ | refine L_nil ?_ | refine A_seq ?_ | refine zR ?_ | refine zD ?_ | refine zK ?_ | refine zB ?_ | refine zA ?_ | refine zS ?_ | refine zU ?_ | refine zV ?_ | refine zF ?_ | with_reducible refine inblk_n ?_ | with_reducible refine then_n ?_ | refine A_block ?_ | refine A_skip ?_ | refine A_exit ?_ | refine zT ?_ | refine zE ?_ | refine zX ?_))
    refine A_ret ?_; refine ⟨_, rfl, ?_⟩
    have : fitsF p g ≠ 0 := by simpa using h
    rw [countM, if_neg this]
    exact Frz.pure
  have h0 : fitsF p g = 0 := by simpa using h
  have ht := table_in hf h0
  have htl : (tableF p g).length = g.ports.length := by simp [tableF]
  rw [countM, if_pos h0]
  (repeat (first | refine zI ?_ | refine zL ?_ | refine zC ?_ | refine L_nil ?_ | refine A_seq ?_ | refine zR ?_ | refine zD ?_ | refine zK ?_ | refine zB ?_ | refine zA ?_ | refine zS ?_ | refine zU ?_ | refine zV ?_ | refine zF ?_ | with_reducible refine inblk_n ?_ | with_reducible refine then_n ?_ | refine A_block ?_ | refine A_skip ?_ | refine A_exit ?_ | refine zT ?_ | refine zE ?_ | refine zX ?_))
  refine A_inv (α := Nat × Int) (fun a => [(8, i64 a.1), (7, i64 a.2), (2, .lp 2 0), (3, .lp 3 0)]) (fun k => [(2, some (.cells [strA p.name, .sl 6 (p.vars.map encVar), .sl 3 (p.rules.map encRule)])), (3, some (.cells [encInts g.ids, encPorts g.ports]))]) (fun a => g.ports.length - a.1) (fun a => a.1 ≤ g.ports.length ∧ 1 ≤ a.2 ∧ a.2 ≤ 32768 ∧ cntL 1 ((tableF p g).take a.1).flatten = some a.2) (0, 1) ⟨by simp, by simp, by simp, rfl⟩ (by (repeat (first | exact subT_nil | refine subT_cons rfl ?_))) (by first | exact subH_nil | exact subH_cons rfl subH_nil | exact subH_cons rfl (subH_cons rfl subH_nil) | exact subH_cons rfl (subH_cons rfl (subH_cons rfl subH_nil)) | exact subH_cons rfl (subH_cons rfl (subH_cons rfl (subH_cons rfl subH_nil)))) ?_
  rintro ⟨k, n⟩ ⟨hk, hn1, hn2, hn⟩
  simp only at hk hn1 hn2 hn ⊢
  (repeat (first | refine zI ?_ | refine zL ?_ | refine zC ?_ | refine L_nil ?_ | refine A_seq ?_ | refine zR ?_ | refine zD ?_ | refine zK ?_ | refine zB ?_ | refine zA ?_ | refine zS ?_ | refine zU ?_ | refine zV ?_ | refine zF ?_ | with_reducible refine inblk_n ?_ | with_reducible refine then_n ?_ | refine A_block ?_ | refine A_skip ?_ | refine A_exit ?_ | refine zT ?_ | refine zE ?_ | refine zX ?_))
  refine A_cond rfl (fun h1 => ?_) (fun h1 => ?_)
  · simp at h1
    obtain ⟨r, hr⟩ := getN (show k < (tableF p g).length by omega)
    have hw : ∀ b ∈ r, wOk b := fun b hb => rgOk_w ((ht.2 r (List.mem_of_getElem? hr)).2 b hb)
    have hsz := size_table h0 hr
    obtain ⟨q, hq⟩ : ∃ q, q = sizeF p g k := ⟨_, rfl⟩
    obtain ⟨hs1, hs2⟩ := sat_cnt r 1 (by omega) (by omega) hw
    have hsg := sat_ge r 1 (by omega) (by omega) hw
    have hsc := cnt_scale r n 1 hn1 (by omega) hw (by omega)
    rw [Int.mul_one] at hsc
    have hflat : ((tableF p g).take (k + 1)).flatten = ((tableF p g).take k).flatten ++ r := by rw [take_snocM hr]; simp
    have hrest : cntL n r = none → (0, 3) = countF (tableF p g) := by
      intro e
      have e2 : cntL 1 (tableF p g).flatten = none := by
        conv => lhs; rw [← List.take_append_drop (k + 1) (tableF p g), List.flatten_append, hflat]
        rw [cntL_app, cntL_app, hn, Option.bind_some, e]; rfl
      simp only [countF, e2]
    rw [← hsz, ← hq] at hs1 hs2 hsg
    (repeat (first | refine zI ?_ | refine zL ?_ | refine zC ?_ | refine L_nil ?_ | refine A_seq ?_ | refine zR ?_ | refine zD ?_ | refine zK ?_ | refine zB ?_ | refine zA ?_ | refine zS ?_ | refine zU ?_ | refine zV ?_ | refine zF ?_ | with_reducible refine inblk_n ?_ | with_reducible refine then_n ?_ | refine A_block ?_ | refine A_skip ?_ | refine A_exit ?_ | refine zT ?_ | refine zE ?_ | refine zX ?_ | refine L_call rfl rfl (rsize_con p g k hf) rfl rfl ?_))
    rw [← hq]
    refine L_split 29 rfl (fun h2 => ?_) (fun h2 => ?_)
    · (repeat (first | refine zI ?_ | refine zL ?_ | refine zC ?_ | refine L_nil ?_ | refine A_seq ?_ | refine zR ?_ | refine zD ?_ | refine zK ?_ | refine zB ?_ | refine zA ?_ | refine zS ?_ | refine zU ?_ | refine zV ?_ | refine zF ?_ | with_reducible refine inblk_n ?_ | with_reducible refine then_n ?_ | refine A_block ?_ | refine A_skip ?_ | refine A_exit ?_ | refine zT ?_ | refine zE ?_ | refine zX ?_))
      refine A_ret ?_; refine ⟨_, rfl, ?_⟩
      simp at h2
      rw [← hrest ?_]
      · exact Frz.pure
      · rw [hsc]
        cases hc : cntL 1 r with
        | none => rfl
        | some z => have := hs1 z hc; omega
    · simp at h2
      obtain ⟨z, hz⟩ : ∃ z, cntL 1 r = some z := by
        cases hc : cntL 1 r with
        | none => have := hs2 hc; omega
        | some z => exact ⟨z, rfl⟩
      have hqz := (hs1 z hz).1
      have hbd := mulM_bd (n := n) (w := q) hn1 hn2 (by omega) (by omega)
      rw [hz] at hsc
      simp only at hsc
      rw [← hqz] at hsc
      (repeat (first | refine zI ?_ | refine zL ?_ | refine zC ?_ | refine L_nil ?_ | refine A_seq ?_ | refine zR ?_ | refine zD ?_ | refine zK ?_ | refine zB ?_ | refine zA ?_ | refine zS ?_ | refine zU ?_ | refine zV ?_ | refine zF ?_ | with_reducible refine inblk_n ?_ | with_reducible refine then_n ?_ | refine A_block ?_ | refine A_skip ?_ | refine A_exit ?_ | refine zT ?_ | refine zE ?_ | refine zX ?_))
      refine A_cond rfl (fun h3 => ?_) (fun h3 => ?_)
      · (repeat (first | refine zI ?_ | refine zL ?_ | refine zC ?_ | refine L_nil ?_ | refine A_seq ?_ | refine zR ?_ | refine zD ?_ | refine zK ?_ | refine zB ?_ | refine zA ?_ | refine zS ?_ | refine zU ?_ | refine zV ?_ | refine zF ?_ | with_reducible refine inblk_n ?_ | with_reducible refine then_n ?_ | refine A_block ?_ | refine A_skip ?_ | refine A_exit ?_ | refine zT ?_ | refine zE ?_ | refine zX ?_))
        refine A_ret ?_; refine ⟨_, rfl, ?_⟩
        simp at h3
        rw [← hrest (by rw [hsc, if_pos h3])]
        exact Frz.pure
      · (repeat (first | refine zI ?_ | refine zL ?_ | refine zC ?_ | refine L_nil ?_ | refine A_seq ?_ | refine zR ?_ | refine zD ?_ | refine zK ?_ | refine zB ?_ | refine zA ?_ | refine zS ?_ | refine zU ?_ | refine zV ?_ | refine zF ?_ | with_reducible refine inblk_n ?_ | with_reducible refine then_n ?_ | refine A_block ?_ | refine A_skip ?_ | refine A_exit ?_ | refine zT ?_ | refine zE ?_ | refine zX ?_))
        simp at h3
        refine rnd (k + 1, n * q) ⟨by simp only; omega, hbd.1, by simp only; omega, ?_⟩ (by simp only; omega) (by (repeat (first | exact subT_nil | refine subT_cons rfl ?_))) (by first | exact subH_nil | exact subH_cons rfl subH_nil | exact subH_cons rfl (subH_cons rfl subH_nil) | exact subH_cons rfl (subH_cons rfl (subH_cons rfl subH_nil)) | exact subH_cons rfl (subH_cons rfl (subH_cons rfl (subH_cons rfl subH_nil))))
        simp only
        rw [hflat, cntL_app, hn, Option.bind_some, hsc, if_neg (by omega)]
  · simp at h1
    obtain rfl : k = g.ports.length := by omega
    (repeat (first | refine zI ?_ | refine zL ?_ | refine zC ?_ | refine L_nil ?_ | refine A_seq ?_ | refine zR ?_ | refine zD ?_ | refine zK ?_ | refine zB ?_ | refine zA ?_ | refine zS ?_ | refine zU ?_ | refine zV ?_ | refine zF ?_ | with_reducible refine inblk_n ?_ | with_reducible refine then_n ?_ | refine A_block ?_ | refine A_skip ?_ | refine A_exit ?_ | refine zT ?_ | refine zE ?_ | refine zX ?_))
    refine A_ret ?_; refine ⟨_, rfl, ?_⟩
    rw [← htl, List.take_length] at hn
    simp only [countF, hn]
    exact Frz.pure
end Go.Proofs.YtenajilnjeafpaaGreat
set_option linter.unusedVariables false
set_option maxRecDepth 100000
namespace Go.Proofs.YtenajilnjeafpaaGreat
open Go.ChangeShapes Go.WideShapes Go.RowKit

/-- A slice of pairs of integers. -/
def Pairs (w : World) (v : Value) (l : List Lk) : Prop := Row w v 2 l.length (l.flatMap fun t => [.int .i64 t.1, .int .i64 t.2])
theorem Pairs.below {w w' : World} {v : Value} {l : List Lk} (h : Pairs w v l) (hb : Below w.heap.size w w') : Pairs w' v l := Row.below h hb
theorem Pairs.open {w : World} {v : Value} {l : List Lk} (h : Pairs w v l) : ∃ a cap, v = .slice a l.length cap ∧ l.length ≤ cap ∧ cap ≤ 9223372036854775807 ∧
    (0 < l.length → ∃ g o, a = some ⟨g, o, none⟩ ∧ g < w.heap.size ∧ ∀ i t, l[i]? = some t → w.cell? ⟨g, o + i * 2, none⟩ = some (.int .i64 t.1) ∧ w.cell? ⟨g, o + i * 2 + 1, none⟩ = some (.int .i64 t.2)) := by
  obtain ⟨a, cap, hv, h1, h2, h3, h4⟩ := Row.open h
  refine ⟨a, cap, hv, h1, h2, fun hn => ?_⟩
  obtain ⟨g, o, ha, hg, hc⟩ := h4 hn
  exact ⟨g, o, ha, hg, fun i t ht => ⟨hc _ _ (flat_get _ 2 (fun _ => rfl) l i 0 t _ ht rfl), hc _ _ (flat_get _ 2 (fun _ => rfl) l i 1 t _ ht rfl)⟩⟩
def LinksOk (w : World) (cs : List Value) (l : List Lk) : Prop := ∃ v, cs = [v] ∧ Pairs w v l
theorem LinksOk.below {w w' : World} {cs : List Value} {l : List Lk} (hb : Below w.heap.size w w') (h : LinksOk w cs l) : LinksOk w' cs l := by
  obtain ⟨v, h1, h2⟩ := h
  exact ⟨v, h1, h2.below hb⟩
def PortsOk (w : World) (v : Value) (ports : List (List Lk)) : Prop := Seq (LinksOk w) 1 w v ports
theorem PortsOk.below {w w' : World} {v : Value} {l : List (List Lk)} (h : PortsOk w v l) (hb : Below w.heap.size w w') : PortsOk w' v l := Seq.below h hb fun _ _ => LinksOk.below hb
def GraphOk (w : World) (v : Value) (g : GraphD) : Prop := ∃ iv pv, v = .agg #[iv, pv] ∧ Ints .i64 w iv g.ids ∧ PortsOk w pv g.ports
theorem GraphOk.below {w w' : World} {v : Value} {g : GraphD} (h : GraphOk w v g) (hb : Below w.heap.size w w') : GraphOk w' v g := by
  obtain ⟨iv, pv, h1, h2, h3⟩ := h
  exact ⟨iv, pv, h1, h2.below hb, h3.below hb⟩
def LinkIn (t : Lk) : Prop := In64 t.1 ∧ In64 t.2
def GraphIn (g : GraphD) : Prop := (∀ x ∈ g.ids, In64 x) ∧ ∀ l ∈ g.ports, ∀ t ∈ l, LinkIn t

/-- A slice of elements, opened for a walk. -/
theorem seqOpen {α : Type} {R : List Value → α → Prop} {size : Nat} {w : World} {v : Value} {l : List α} (h : Seq R size w v l) : ∃ a cap, v = .slice a l.length cap ∧ l.length ≤ cap ∧ cap ≤ 9223372036854775807 ∧
    (0 < l.length → ∃ g o, a = some ⟨g, o, none⟩ ∧ g < w.heap.size ∧ ∀ i x, l[i]? = some x → ∃ cs, cs.length = size ∧ R cs x ∧ ∀ j u, cs[j]? = some u → w.cell? ⟨g, o + i * size + j, none⟩ = some u) := by
  obtain ⟨xs, h1, h2⟩ := h
  have hlen : xs.length = l.length * size := by obtain ⟨_, _, _, _, _, h, _⟩ := h1; exact h
  obtain ⟨a, cap, hv, h3, h4, _, h5⟩ := Row.open h1
  refine ⟨a, cap, hv, h3, h4, fun hn => ?_⟩
  obtain ⟨g, o, ha, hg, hc⟩ := h5 hn
  refine ⟨g, o, ha, hg, fun i x hx => ⟨_, ?_, h2 i x hx, fun j u hu => ?_⟩⟩
  · have hi := (List.getElem?_eq_some_iff.1 hx).1
    rw [List.length_take, List.length_drop, hlen]
    have : i * size + size ≤ l.length * size := by rw [← Nat.succ_mul]; exact Nat.mul_le_mul_right _ hi
    omega
  · rw [List.getElem?_take] at hu
    split at hu
    · rw [List.getElem?_drop] at hu
      have := hc _ u hu
      rw [← Nat.add_assoc] at this
      exact this
    · cases hu
theorem PortsOk.open {w : World} {v : Value} {l : List (List Lk)} (h : PortsOk w v l) : ∃ a cap, v = .slice a l.length cap ∧ l.length ≤ cap ∧ cap ≤ 9223372036854775807 ∧
    (0 < l.length → ∃ g o, a = some ⟨g, o, none⟩ ∧ g < w.heap.size ∧ ∀ i x, l[i]? = some x → ∃ pv, Pairs w pv x ∧ w.cell? ⟨g, o + i, none⟩ = some pv) := by
  obtain ⟨a, cap, hv, h3, h4, h5⟩ := seqOpen h
  refine ⟨a, cap, hv, h3, h4, fun hn => ?_⟩
  obtain ⟨g, o, ha, hg, hc⟩ := h5 hn
  refine ⟨g, o, ha, hg, fun i x hx => ?_⟩
  obtain ⟨cs, _, ⟨pv, rfl, q1⟩, q2⟩ := hc i x hx
  have := q2 0 _ rfl
  rw [Nat.mul_one, Nat.add_zero] at this
  exact ⟨pv, q1, this⟩

theorem gcellsInt : Tryz.prog.cellsOf 3 = 1 := by kernel_rfl
theorem cellsLink : Tryz.prog.cellsOf 50 = 2 := by kernel_rfl
theorem cellsInts : Tryz.prog.cellsOf 26 = 1 := by kernel_rfl
theorem cellsLinks : Tryz.prog.cellsOf 51 = 1 := by kernel_rfl
theorem cellsPorts : Tryz.prog.cellsOf 27 = 1 := by kernel_rfl
theorem cellsGraph : Tryz.prog.cellsOf 29 = 2 := by kernel_rfl
section
variable {H : Type} {enc : TypeId × Value → H} {w : World} {cs : List Value} {v : Value} {base : Nat} {d : DataW H} {ps : List MemPlace}
theorem rd_link (h : Rd enc Tryz.prog w 50 cs) : ∃ t : Lk, cs = [.int .i64 t.1, .int .i64 t.2] ∧ LinkIn t := by
  obtain ⟨h1, h2⟩ := rd_struct Tryz.underlying50 h
  rw [cellsLink] at h1
  match cs, h1 with
  | [a, b], _ =>
    have g0 := h2 0 _ rfl
    have g1 := h2 1 _ rfl
    simp [gcellsInt] at g0 g1
    obtain ⟨x, hx, hx'⟩ := rd_int64 Tryz.underlying3 g0
    obtain ⟨y, hy, hy'⟩ := rd_int64 Tryz.underlying3 g1
    simp at hx hy
    exact ⟨(x, y), by simp [hx, hy], hx', hy'⟩
theorem rd_links (h : Rd enc Tryz.prog w 51 cs) : ∃ l, LinksOk w cs l ∧ ∀ t ∈ l, LinkIn t := by
  obtain ⟨v, l, h1, h2⟩ := open_seq (R := fun cs (t : Lk) => cs = [.int .i64 t.1, .int .i64 t.2] ∧ LinkIn t) Tryz.underlying51 cellsLink (Nat.succ_pos 1) (fun cs h => rd_link h) h
  refine ⟨l, ⟨v, h1, seq_flat (fun t : Lk => [.int .i64 t.1, .int .i64 t.2]) (fun _ => rfl) (by omega) h2 (fun cs x h => h.1)⟩, fun x hx => ?_⟩
  obtain ⟨xs, _, h3⟩ := h2
  obtain ⟨i, hi⟩ := List.getElem?_of_mem hx
  exact (h3 i x hi).2
theorem rd_ints (h : Rd enc Tryz.prog w 26 cs) : ∃ v l, cs = [v] ∧ Ints .i64 w v l ∧ ∀ x ∈ l, In64 x := by
  obtain ⟨v, l, h1, hl⟩ := open_seq (R := fun cs x => cs = [.int .i64 x] ∧ In64 x) Tryz.underlying26 gcellsInt Nat.one_pos (fun cs h => by obtain ⟨n, h1, h2⟩ := rd_int64 Tryz.underlying3 h; exact ⟨n, h1, h2⟩) h
  refine ⟨v, l, h1, ?_, fun x hx => ?_⟩
  · have := seq_flat (fun x => [.int .i64 x]) (fun _ => rfl) Nat.one_pos hl (fun cs x h => h.1)
    unfold Ints
    rwa [flat_one l] at this
  · obtain ⟨xs, _, h2⟩ := hl
    obtain ⟨i, hi⟩ := List.getElem?_of_mem hx
    exact (h2 i x hi).2
theorem rd_ports (h : Rd enc Tryz.prog w 27 cs) : ∃ v l, cs = [v] ∧ PortsOk w v l ∧ ∀ x ∈ l, ∀ t ∈ x, LinkIn t := by
  obtain ⟨v, l, h1, h2⟩ := open_seq (R := fun cs l => LinksOk w cs l ∧ ∀ t ∈ l, LinkIn t) Tryz.underlying27 cellsLinks Nat.one_pos (fun cs h => rd_links h) h
  refine ⟨v, l, h1, h2.imp fun _ _ _ h => h.1, fun x hx => ?_⟩
  obtain ⟨xs, _, h3⟩ := h2
  obtain ⟨i, hi⟩ := List.getElem?_of_mem hx
  exact (h3 i x hi).2
theorem open_graph (hv : Value.okWide Tryz.prog w .any base 29 v) (h : DataW.Trod enc Tryz.prog w 0 (fun _ => true) true 29 v d ps) : ∃ g, GraphOk w v g ∧ GraphIn g := by
  obtain ⟨cs, rfl, hcs⟩ : ∃ cs, v = .agg cs ∧ cs.size = Tryz.prog.cellsOf 29 := by
    unfold Value.okWide at hv
    rw [Tryz.underlying29] at hv
    obtain ⟨cs, h1, h2, _⟩ := hv
    exact ⟨cs, h1, h2⟩
  have hr := rd_of h
  simp only [Value.cells] at hr
  obtain ⟨h1, h2⟩ := rd_struct Tryz.underlying29 hr
  rw [cellsGraph] at h1
  obtain ⟨cs⟩ := cs
  simp only at h1 h2
  match cs, h1 with
  | [a, b], _ =>
    have g0 := h2 0 _ rfl
    have g1 := h2 1 _ rfl
    simp [cellsInts, cellsPorts] at g0 g1
    obtain ⟨iv, l, e2, q2, q3⟩ := rd_ints g0
    obtain ⟨pv, rr, e3, q4, q5⟩ := rd_ports g1
    simp at e2 e3
    exact ⟨⟨l, rr⟩, ⟨iv, pv, by simp [e2, e3], q2, q4⟩, q3, q5⟩
end
end Go.Proofs.YtenajilnjeafpaaGreat
set_option linter.unusedVariables false
namespace Go.Proofs.YtenajilnjeafpaaGreat
open Go.RowKit

theorem links_rel {w : World} {lv : Live} {v : Value} {l : List Lk} (h : Pairs w v l) : Rel (okW w) w lv (encLinks l) v :=
  rel_plain (g := fun t : Lk => [.int .i64 t.1, .int .i64 t.2]) (fun _ => rfl) (fun x u hu => by simp at hu; rcases hu with rfl | rfl <;> rfl) h
theorem graph_rel {w : World} {lv : Live} {v : Value} {g : GraphD} (h : GraphOk w v g) : Rel (okW w) w lv (encG g) v := by
  obtain ⟨iv, pv, rfl, h1, h2⟩ := h
  have h3 : RelAll (okW w) w lv [encInts g.ids, encPorts g.ports] [iv, pv] := by
    refine relAll_cons (ints_rel h1) (relAll_cons ?_ relAll_nil)
    refine rel_of_seq h2 (fun _ => rfl) (fun x c hc => by simp at hc; subst hc; rfl) fun x _ cs hc => ?_
    obtain ⟨lv', rfl, r1⟩ := hc
    exact relAll_cons (links_rel r1) relAll_nil
  exact .agg _ h3.1 (fun c hc => by simp at hc; rcases hc with rfl | rfl <;> rfl) h3.2
end Go.Proofs.YtenajilnjeafpaaGreat
set_option linter.unusedVariables false
namespace Go.Proofs.YtenajilnjeafpaaGreat
open Go.RowKit

theorem terms_rel {w : World} {lv : Live} {v : Value} {l : List Tm} (h : Terms w v l) : Rel (okW w) w lv (encTerms l) v :=
  rel_plain (g := fun t : Tm => [.int .i64 t.1, .int .i64 t.2]) (fun _ => rfl) (fun x u hu => by simp at hu; rcases hu with rfl | rfl <;> rfl) h
theorem vars_rel {w : World} {lv : Live} {v : Value} {l : List VarD} (h : VarsOk w v l) : Rel (okW w) w lv (.sl 6 (l.map encVar)) v :=
  rel_plain (g := varCells) (fun _ => rfl) (fun x u hu => by simp [varCells] at hu; rcases hu with rfl | rfl | rfl | rfl | rfl | rfl <;> rfl) h
theorem prog_rel {w : World} {lv : Live} {v : Value} {p : ProgD} (h : ProgOk w v p) : Rel (okW w) w lv (encP p) v := by
  obtain ⟨vv, rv, rfl, h1, h2⟩ := h
  have h3 : RelAll (okW w) w lv [strA p.name, .sl 6 (p.vars.map encVar), .sl 3 (p.rules.map encRule)] [.string p.name, vv, rv] := by
    refine relAll_cons (.v _) (relAll_cons (vars_rel h1) (relAll_cons ?_ relAll_nil))
    refine rel_of_seq h2 (fun _ => rfl) (fun x c hc => by simp [encRule] at hc; rcases hc with rfl | rfl | rfl <;> rfl) fun x _ cs hc => ?_
    obtain ⟨gv, sv, rfl, q1, q2⟩ := hc
    refine relAll_cons (.v _) (relAll_cons (terms_rel q1) (relAll_cons ?_ relAll_nil))
    refine rel_of_seq q2 (fun _ => rfl) (fun x c hc => by simp [encSet] at hc; rcases hc with rfl | rfl <;> rfl) fun x _ cs hc => ?_
    obtain ⟨tv, rfl, r1⟩ := hc
    exact relAll_cons (.v _) (relAll_cons (terms_rel r1) relAll_nil)
  exact .agg _ h3.1 (fun c hc => by simp at hc; rcases hc with rfl | rfl | rfl <;> rfl) h3.2
end Go.Proofs.YtenajilnjeafpaaGreat
set_option linter.unusedVariables false
set_option maxRecDepth 100000
namespace Go.Proofs.YtenajilnjeafpaaGreat
open Go.ChangeShapes Go.WideShapes Go.RowKit
def RowOk (w : World) (cs : List Value) (l : List Int) : Prop := ∃ u, cs = [u] ∧ Ints .i64 w u l
def CfgOk (w : World) (v : Value) (c : List (List Int)) : Prop := Seq (RowOk w) 1 w v c
theorem cfg_rel {w : World} {lv : Live} {v : Value} {c : List (List Int)} (h : CfgOk w v c) : Rel (okW w) w lv (encC c) v := by
  refine rel_of_seq h (fun _ => rfl) (fun x c hc => by simp at hc; subst hc; rfl) fun x _ cs hc => ?_
  obtain ⟨u, rfl, r1⟩ := hc
  exact relAll_cons (ints_rel r1) relAll_nil
section
variable {H : Type} {enc : TypeId × Value → H} {w : World} {cs : List Value} {v : Value} {base : Nat} {d : DataW H} {ps : List MemPlace}
theorem open_config (hv : Value.okWide Tryz.prog w .any base 30 v) (h : DataW.Trod enc Tryz.prog w 0 (fun _ => true) true 30 v d ps) : ∃ c, CfgOk w v c := by
  obtain ⟨l, hl⟩ := open_seq_arg (R := RowOk w) Tryz.underlying30 cellsInts Nat.one_pos (fun cs h => by obtain ⟨u, l, h1, h2, _⟩ := rd_ints h; exact ⟨l, u, h1, h2⟩) hv h
  exact ⟨l, hl⟩
end
end Go.Proofs.YtenajilnjeafpaaGreat
set_option linter.unusedVariables false
set_option maxRecDepth 100000
set_option maxHeartbeats 8000000
namespace Go.Proofs.YtenajilnjeafpaaGreat
open Go.RowKit
theorem least_in {p : ProgD} {g : GraphD} (hf : Fair p g) : CfgIn (leastM p g).1 := by
  unfold leastM
  by_cases h0 : fitsF p g = 0
  · rw [if_pos h0]; exact cfg_shape hf h0 (shape_low _)
  · rw [if_neg h0]; exact cfg_nil
theorem checks_con (p : ProgD) (g : GraphD) (c : List (List Int)) (hin : ProgIn p) : Con Tryz.prog 3 [encP p, encG g, encC c] (boolA true) := by
  refine con_of Tryz.func3 rfl rfl Tryz.ntmps3 Tryz.results3 rfl rfl ?_
  (repeat (first | refine zI ?_ | refine zL ?_ | refine zC ?_ | refine L_nil ?_ | refine A_seq ?_ | refine zR ?_ | refine zD ?_ | refine zK ?_ | refine zB ?_ | refine zA ?_ | refine zS ?_ | refine zU ?_ | refine zV ?_ | refine zF ?_ | with_reducible refine inblk_n ?_ | with_reducible refine then_n ?_ | refine A_block ?_ | refine A_skip ?_ | refine A_exit ?_ | refine zT ?_ | refine zE ?_ | refine zX ?_ | refine L_call rfl rfl (fair10_con p g c hin) rfl rfl ?_))
  refine A_cond rfl (fun h => ?_) (fun h => ?_)
  · (repeat (first | refine zI ?_ | refine zL ?_ | refine zC ?_ | refine L_nil ?_ | refine A_seq ?_ | refine zR ?_ | refine zD ?_ | refine zK ?_ | refine zB ?_ | refine zA ?_ | refine zS ?_ | refine zU ?_ | refine zV ?_ | refine zF ?_ | with_reducible refine inblk_n ?_ | with_reducible refine then_n ?_ | refine A_block ?_ | refine A_skip ?_ | refine A_exit ?_ | refine zT ?_ | refine zE ?_ | refine zX ?_ | refine L_call rfl rfl awake10_con rfl rfl ?_))
    refine A_ret ?_; refine ⟨_, rfl, ?_⟩
    exact frz_bool rfl
  simp at h
  have hf : Fair p g := ⟨hin, light_of h.1.1, h.1.2⟩
  have hc := lightC_in h.2
  (repeat (first | refine zI ?_ | refine zL ?_ | refine zC ?_ | refine L_nil ?_ | refine A_seq ?_ | refine zR ?_ | refine zD ?_ | refine zK ?_ | refine zB ?_ | refine zA ?_ | refine zS ?_ | refine zU ?_ | refine zV ?_ | refine zF ?_ | with_reducible refine inblk_n ?_ | with_reducible refine then_n ?_ | refine A_block ?_ | refine A_skip ?_ | refine A_exit ?_ | refine zT ?_ | refine zE ?_ | refine zX ?_ | refine L_call rfl rfl (mleast_con p g hf) rfl rfl ?_ | refine L_call rfl rfl (rleast_con p g hf) rfl rfl ?_ | refine L_call rfl rfl (mcount_con p g hf) rfl rfl ?_ | refine L_call rfl rfl (rcount_con p g hf) rfl rfl ?_ | refine L_call rfl rfl awake10_con rfl rfl ?_ | refine L_call rfl rfl (mcheck_con p g c hf hc) rfl rfl ?_ | refine L_call rfl rfl (rcheck_con p g c hf hc) rfl rfl ?_))
  refine L_true 57 rfl (by simp) ?_
  (repeat (first | refine zI ?_ | refine zL ?_ | refine zC ?_ | refine L_nil ?_ | refine A_seq ?_ | refine zR ?_ | refine zD ?_ | refine zK ?_ | refine zB ?_ | refine zA ?_ | refine zS ?_ | refine zU ?_ | refine zV ?_ | refine zF ?_ | with_reducible refine inblk_n ?_ | with_reducible refine then_n ?_ | refine A_block ?_ | refine A_skip ?_ | refine A_exit ?_ | refine zT ?_ | refine zE ?_ | refine zX ?_ | refine L_call rfl rfl (mvalid_con p g c hf hc) rfl rfl ?_ | refine L_call rfl rfl (rvalid10_con p g c hf hc) rfl rfl ?_ | refine L_eqlB tok rfl rfl rfl rfl rfl ?_))
  refine L_true 68 rfl (by simp) ?_
  (repeat (first | refine zI ?_ | refine zL ?_ | refine zC ?_ | refine L_nil ?_ | refine A_seq ?_ | refine zR ?_ | refine zD ?_ | refine zK ?_ | refine zB ?_ | refine zA ?_ | refine zS ?_ | refine zU ?_ | refine zV ?_ | refine zF ?_ | with_reducible refine inblk_n ?_ | with_reducible refine then_n ?_ | refine A_block ?_ | refine A_skip ?_ | refine A_exit ?_ | refine zT ?_ | refine zE ?_ | refine zX ?_ | refine L_call rfl rfl (same_con10 _ _ (least_in hf)) rfl rfl ?_))
  refine L_true 73 rfl (by simp) ?_
  (repeat (first | refine zI ?_ | refine zL ?_ | refine zC ?_ | refine L_nil ?_ | refine A_seq ?_ | refine zR ?_ | refine zD ?_ | refine zK ?_ | refine zB ?_ | refine zA ?_ | refine zS ?_ | refine zU ?_ | refine zV ?_ | refine zF ?_ | with_reducible refine inblk_n ?_ | with_reducible refine then_n ?_ | refine A_block ?_ | refine A_skip ?_ | refine A_exit ?_ | refine zT ?_ | refine zE ?_ | refine zX ?_))
  refine L_true 78 rfl (by simp) ?_
  (repeat (first | refine zI ?_ | refine zL ?_ | refine zC ?_ | refine L_nil ?_ | refine A_seq ?_ | refine zR ?_ | refine zD ?_ | refine zK ?_ | refine zB ?_ | refine zA ?_ | refine zS ?_ | refine zU ?_ | refine zV ?_ | refine zF ?_ | with_reducible refine inblk_n ?_ | with_reducible refine then_n ?_ | refine A_block ?_ | refine A_skip ?_ | refine A_exit ?_ | refine zT ?_ | refine zE ?_ | refine zX ?_))
  refine L_true 83 rfl (by simp) ?_
  (repeat (first | refine zI ?_ | refine zL ?_ | refine zC ?_ | refine L_nil ?_ | refine A_seq ?_ | refine zR ?_ | refine zD ?_ | refine zK ?_ | refine zB ?_ | refine zA ?_ | refine zS ?_ | refine zU ?_ | refine zV ?_ | refine zF ?_ | with_reducible refine inblk_n ?_ | with_reducible refine then_n ?_ | refine A_block ?_ | refine A_skip ?_ | refine A_exit ?_ | refine zT ?_ | refine zE ?_ | refine zX ?_))
  refine A_ret ?_; refine ⟨_, rfl, ?_⟩
  exact frz_bool (by simp)
theorem walk_MemoryChecks (v0 : Value) (z0 : ProgD) (v1 : Value) (z1 : GraphD) (v2 : Value) (z2 : List (List Int)) (w : World) (h0 : ProgOk w v0 z0 ∧ ProgIn z0) (h1 : GraphOk w v1 z1 ∧ GraphIn z1) (h2 : CfgOk w v2 z2) :
    Calls Tryz.prog 3 #[v0, v1, v2] w fun e w' => e = .returned (.bool true) ∧ Below w.heap.size w w' :=
  calls_of_con (checks_con z0 z1 z2 h0.2) trivial (okW_lt w) (relAll_cons (prog_rel h0.1) (relAll_cons (graph_rel h1.1) (relAll_cons (cfg_rel h2) relAll_nil)))
end Go.Proofs.YtenajilnjeafpaaGreat
