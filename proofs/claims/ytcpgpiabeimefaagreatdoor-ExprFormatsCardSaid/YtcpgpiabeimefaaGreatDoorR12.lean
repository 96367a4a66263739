/- Part 12 of the texts under ExprFormats,ExprBracketsEverything: joined, with what it needs alone. -/
import Derived.Deep.Slices
import Derived.ChangeArms
import Derived.OpenShut
import Derived.WideShapes
import Derived.Test.YtcpgpiabeimefaaGreatDoorRows
import Derived.WalkKit
import Derived.WalkSpells
import Derived.WalkLawsBesides
import Derived.Lib.Hide
import Derived.Test.YtcpgpiabeimefaaGreatDoorR5
import Derived.Test.YtcpgpiabeimefaaGreatDoorR10
import Derived.Test.YtcpgpiabeimefaaGreatDoorR11
namespace Go.Proofs.YtcpgpiabeimefaaGreatDoor
open Go.ChangeShapes Go.WideShapes Go.RowKit

def Rd {H : Type} (enc : TypeId × Value → H) (P : Program) (w : World) (t : TypeId) (cs : List Value) : Prop := ∃ fuel x, DataW.trod enc P w 0 (fun _ => true) true fuel t cs = some x

section
variable {H : Type} {enc : TypeId × Value → H} {P : Program} {w : World} {t : TypeId} {cs : List Value}

theorem rd_int {k : IntKind} (ht : P.underlying t = some (.int k)) (h : Rd enc P w t cs) : ∃ n, cs = [.int k n] ∧ (Lit.int k n).wf = true := by
  obtain ⟨fuel, x, h⟩ := h
  obtain ⟨n, h1, _, h2⟩ := DataW.trod_int ht h
  exact ⟨n, h1, h2⟩
theorem wf64 {n : Int} (h : (Lit.int .i64 n).wf = true) : -9223372036854775808 ≤ n ∧ n ≤ 9223372036854775807 := by
  simp only [Lit.wf, Bool.and_eq_true, decide_eq_true_eq] at h
  have e1 : IntKind.i64.min = -9223372036854775808 := by decide
  have e2 : IntKind.i64.max = 9223372036854775807 := by decide
  omega
theorem rd_int64 (ht : P.underlying t = some (.int .i64)) (h : Rd enc P w t cs) : ∃ n, cs = [.int .i64 n] ∧ -9223372036854775808 ≤ n ∧ n ≤ 9223372036854775807 := by
  obtain ⟨n, h1, h2⟩ := rd_int ht h
  exact ⟨n, h1, wf64 h2⟩
theorem rd_string (ht : P.underlying t = some .string) (h : Rd enc P w t cs) : ∃ s : ByteArray, cs = [.string s] ∧ s.size ≤ maxLen := by
  obtain ⟨fuel, x, h⟩ := h
  obtain ⟨s, h1, _, h2⟩ := DataW.trod_string ht h
  exact ⟨s, h1, h2⟩
theorem rd_struct {fs : Array Field} (ht : P.underlying t = some (.struct fs)) (h : Rd enc P w t cs) :
    cs.length = P.cellsOf t ∧ ∀ (i : Nat) (f : Field), fs[i]? = some f → Rd enc P w f.type ((cs.drop f.offset).take (P.cellsOf f.type)) := by
  obtain ⟨fuel, x, h⟩ := h
  obtain ⟨xs, n, _, _, h1, h2, h3⟩ := DataW.trod_struct ht h
  refine ⟨h1, fun i f hf => ?_⟩
  have hi : i < xs.length := by rw [h2]; exact (Array.getElem?_eq_some_iff.1 hf).1
  exact ⟨n, xs[i], by rw [h3 i f hf, List.getElem?_eq_getElem hi]⟩
theorem rd_slice {e : TypeId} (ht : P.underlying t = some (.slice e)) (h : Rd enc P w t cs) :
    cs = [.slice none 0 0] ∨ ∃ (a : Addr) (len cap : Nat), cs = [.slice (some a) len cap] ∧ len ≤ cap ∧ cap ≤ maxLen ∧
      ∀ i, i < len → ∃ cs', cs'.length = P.cellsOf e ∧ (∀ j, j < P.cellsOf e → w.cell? ((a.add (i * P.cellsOf e)).add j) = cs'[j]?) ∧ Rd enc P w e cs' := by
  obtain ⟨fuel, x, h⟩ := h
  rcases Deep.open_slice ht h with ⟨h0, _⟩ | ⟨a, len, cap, m, n, D, Pl, h1, _, h2, h3, h4, _, h5⟩
  · exact .inl h0
  · refine .inr ⟨a, len, cap, h1, h2, h3, fun i hi => ?_⟩
    have hm : m = cap := by simpa using h4
    obtain ⟨cs', h6, h7⟩ := h5 i (by omega)
    obtain ⟨_, h8, h9⟩ := World.cells?_some h6
    exact ⟨cs', h8, h9, ⟨n, _, h7⟩⟩
end

def Seq {α : Type} (R : List Value → α → Prop) (size : Nat) (w : World) (v : Value) (l : List α) : Prop :=
  ∃ xs, Row w v size l.length xs ∧ ∀ i x, l[i]? = some x → R ((xs.drop (i * size)).take size) x

theorem Seq.imp {α : Type} {R R' : List Value → α → Prop} {size : Nat} {w : World} {v : Value} {l : List α} (h : Seq R size w v l) (hR : ∀ cs x, x ∈ l → R cs x → R' cs x) : Seq R' size w v l := by
  obtain ⟨xs, h1, h2⟩ := h
  exact ⟨xs, h1, fun i x hx => hR _ _ (List.mem_of_getElem? hx) (h2 i x hx)⟩

theorem flat_chunk (f : Nat → List Value) (size : Nat) (hf : ∀ i, (f i).length = size) (n i : Nat) (hi : i < n) : (((List.range n).flatMap f).drop (i * size)).take size = f i := by
  apply List.ext_getElem?
  intro j
  rw [List.getElem?_take]
  split
  · rename_i hj
    rw [List.getElem?_drop]
    obtain ⟨u, hu⟩ : ∃ u, (f i)[j]? = some u := ⟨_, List.getElem?_eq_getElem (by rw [hf]; exact hj)⟩
    rw [hu]
    exact flat_get f size hf (List.range n) i j i u (by rw [List.getElem?_range hi]) hu
  · rename_i hj
    rw [List.getElem?_eq_none (by rw [hf]; omega)]

theorem open_seq {H : Type} {enc : TypeId × Value → H} {P : Program} {w : World} {t e : TypeId} {cs : List Value} {α : Type} {R : List Value → α → Prop} {size : Nat} (ht : P.underlying t = some (.slice e)) (hs : P.cellsOf e = size) (h0 : 0 < size)
    (hR : ∀ cs, Rd enc P w e cs → ∃ x, R cs x) (h : Rd enc P w t cs) : ∃ v l, cs = [v] ∧ Seq R size w v l := by
  rcases rd_slice ht h with rfl | ⟨a, len, cap, rfl, h1, h2, h3⟩
  · exact ⟨_, [], rfl, [], row_nil w size, fun i x hx => by simp at hx⟩
  · rw [hs] at h3
    by_cases hl : len = 0
    · subst hl
      exact ⟨_, [], rfl, [], ⟨_, cap, rfl, by simp, h2, by simp, (fun h => by cases h), .inl rfl⟩, fun i x hx => by simp at hx⟩
    have hch : ∀ i : Nat, ∃ q : List Value, q.length = size ∧ (i < len → (∀ j, j < size → w.cell? ((a.add (i * size)).add j) = q[j]?) ∧ ∃ x, R q x) := by
      intro i
      by_cases hi : i < len
      · obtain ⟨c, c1, c2, c3⟩ := h3 i hi
        exact ⟨c, c1, fun _ => ⟨c2, hR c c3⟩⟩
      · exact ⟨List.replicate size undef, by simp, fun h => absurd h hi⟩
    obtain ⟨f, hf⟩ := Classical.axiomOfChoice hch
    obtain ⟨x0, _⟩ := ((hf 0).2 (by omega)).2
    have hx : ∀ i : Nat, ∃ x : α, i < len → R (f i) x := by
      intro i
      by_cases hi : i < len
      · obtain ⟨x, hx⟩ := ((hf i).2 hi).2
        exact ⟨x, fun _ => hx⟩
      · exact ⟨x0, fun h => absurd h hi⟩
    obtain ⟨g, hg⟩ := Classical.axiomOfChoice hx
    have hc0 : w.cell? a = (f 0)[0]? := by
      have := ((hf 0).2 (by omega)).1 0 h0
      simpa [Addr.add] using this
    obtain ⟨u0, hu0⟩ : ∃ u, (f 0)[0]? = some u := ⟨_, List.getElem?_eq_getElem (by rw [(hf 0).1]; exact h0)⟩
    rw [hu0] at hc0
    obtain ⟨b, o, sp⟩ := a
    have hsp : sp = none := by
      unfold World.cell? at hc0
      split at hc0
      · split at hc0
        · cases hc0
        · rename_i hsp; simpa using hsp
      · cases hc0
    subst hsp
    have hb : b < w.heap.size := by
      rcases Nat.lt_or_ge b w.heap.size with h | h
      · exact h
      · unfold World.cell? at hc0; simp [Array.getElem?_eq_none h] at hc0
    have hadd : ∀ n : Nat, (⟨b, o, none⟩ : Addr).add n = ⟨b, o + n, none⟩ := by intro n; unfold Addr.add; split <;> simp_all
    refine ⟨_, (List.range len).map g, rfl, (List.range len).flatMap f, ?_, ?_⟩
    · rw [List.length_map, List.length_range]
      refine ⟨_, cap, rfl, h1, h2, by rw [flat_len f size (fun i => (hf i).1), List.length_range], (fun h => by cases h), .inr ⟨b, o, rfl, hb, fun j u hu => ?_⟩⟩
      have hj : j < len * size := by
        have := (List.getElem?_eq_some_iff.1 hu).1
        rw [flat_len f size (fun i => (hf i).1), List.length_range] at this; exact this
      have hi : j / size < len := (Nat.div_lt_iff_lt_mul h0).2 hj
      have hr : j % size < size := Nat.mod_lt _ h0
      have hjd : j / size * size + j % size = j := by rw [Nat.mul_comm]; exact Nat.div_add_mod j size
      have c := ((hf (j / size)).2 hi).1 (j % size) hr
      obtain ⟨u', hu'⟩ : ∃ u, (f (j / size))[j % size]? = some u := ⟨_, List.getElem?_eq_getElem (by rw [(hf _).1]; exact hr)⟩
      have e1 := flat_get f size (fun i => (hf i).1) (List.range len) (j / size) (j % size) (j / size) u' (by rw [List.getElem?_range hi]) hu'
      rw [hjd, hu] at e1
      cases e1
      rw [hadd] at c
      have h5 : (⟨b, o + j / size * size, none⟩ : Addr).add (j % size) = ⟨b, o + j, none⟩ := by
        have : (⟨b, o + j / size * size, none⟩ : Addr).add (j % size) = ⟨b, o + j / size * size + j % size, none⟩ := by unfold Addr.add; split <;> simp_all
        rw [this, Nat.add_assoc, hjd]
      rw [h5] at c
      rw [c, hu']
    · intro i x hx
      have hi : i < len := by
        have := (List.getElem?_eq_some_iff.1 hx).1
        simpa using this
      rw [List.getElem?_map, List.getElem?_range hi] at hx
      simp at hx
      subst hx
      rw [flat_chunk f size (fun i => (hf i).1) len i hi]
      exact hg i hi

theorem seq_flat {α : Type} {R : List Value → α → Prop} {size : Nat} {w : World} {v : Value} {l : List α} (f : α → List Value) (hf : ∀ x, (f x).length = size) (h0 : 0 < size) (h : Seq R size w v l) (hR : ∀ cs x, R cs x → cs = f x) : Row w v size l.length (l.flatMap f) := by
  obtain ⟨xs, ⟨a, cap, hv, h1, h2, h3, h4, h5⟩, h6⟩ := h
  refine ⟨a, cap, hv, h1, h2, flat_len f size hf l, h4, ?_⟩
  rcases h5 with h5 | ⟨g, o, ha, hg, hc⟩
  · exact .inl h5
  · refine .inr ⟨g, o, ha, hg, fun j u hu => hc j u ?_⟩
    have hj : j < l.length * size := by
      have := (List.getElem?_eq_some_iff.1 hu).1
      rw [flat_len f size hf] at this; exact this
    have hi : j / size < l.length := (Nat.div_lt_iff_lt_mul h0).2 hj
    have hr : j % size < size := Nat.mod_lt _ h0
    have hjd : j / size * size + j % size = j := by rw [Nat.mul_comm]; exact Nat.div_add_mod j size
    have e1 := flat_get f size hf l (j / size) (j % size) l[j / size] ((f l[j / size])[j % size]'(by rw [hf]; exact hr)) (List.getElem?_eq_getElem hi) (List.getElem?_eq_getElem (by rw [hf]; exact hr))
    rw [hjd, hu] at e1
    cases e1
    have e2 := hR _ _ (h6 (j / size) _ (List.getElem?_eq_getElem hi))
    have e3 : ((xs.drop (j / size * size)).take size)[j % size]? = some ((f l[j / size])[j % size]'(by rw [hf]; exact hr)) := by rw [e2]; exact List.getElem?_eq_getElem (by rw [hf]; exact hr)
    rw [List.getElem?_take, if_pos hr, List.getElem?_drop, hjd] at e3
    exact e3

theorem rd_of {H : Type} {enc : TypeId × Value → H} {P : Program} {w : World} {t : TypeId} {v : Value} {d : DataW H} {ps : List MemPlace} (h : DataW.Trod enc P w 0 (fun _ => true) true t v d ps) : Rd enc P w t v.cells.toList := by
  obtain ⟨fuel, h⟩ := h
  exact ⟨fuel, _, h⟩

theorem open_seq_arg {H : Type} {enc : TypeId × Value → H} {P : Program} {w : World} {base : Nat} {t e : TypeId} {v : Value} {d : DataW H} {ps : List MemPlace} {α : Type} {R : List Value → α → Prop} {size : Nat} (ht : P.underlying t = some (.slice e)) (hs : P.cellsOf e = size) (h0 : 0 < size)
    (hR : ∀ cs, Rd enc P w e cs → ∃ x, R cs x) (hv : Value.okWide P w .any base t v) (h : DataW.Trod enc P w 0 (fun _ => true) true t v d ps) : ∃ l, Seq R size w v l := by
  obtain ⟨a, len, cap, rfl⟩ := okWide_slice ht hv
  obtain ⟨v', l, h1, h2⟩ := open_seq ht hs h0 hR (rd_of h)
  simp [Value.cells] at h1
  subst h1
  exact ⟨l, h2⟩

def In64 (n : Int) : Prop := -9223372036854775808 ≤ n ∧ n ≤ 9223372036854775807
end Go.Proofs.YtcpgpiabeimefaaGreatDoor
set_option linter.unusedVariables false
namespace Go.Proofs.YtcpgpiabeimefaaGreatDoor
open Go.RowKit

theorem rel_of_seq {α : Type} {f : α → List AV} {R : List Value → α → Prop} {w : World} {lv : Live} {size : Nat} {l : List α} {v : Value} (h : Seq R size w v l) (hf : ∀ x, (f x).length = size) (hfc : ∀ x, ∀ c ∈ f x, ydl c = true)
    (hR : ∀ x ∈ l, ∀ cs, R cs x → ybr (okW w) w (fun _ => none) (f x) cs) : Rel (okW w) w lv (.sl size (l.map f)) v := by
  obtain ⟨xs, ⟨a, cap, rfl, h1, h2, h3, h4, h5⟩, h6⟩ := h
  have hget : ∀ (i j : Nat) (row : List AV) (c : AV), (l.map f)[i]? = some row → row[j]? = some c → ∃ x, l[i]? = some x ∧ row = f x ∧ ∃ u, xs[i * size + j]? = some u ∧ Rel (okW w) w (fun _ => none) c u := by
    intro i j row c hrow hc
    rw [List.getElem?_map] at hrow
    cases hx : l[i]? with
    | none => simp [hx] at hrow
    | some x =>
      simp only [hx, Option.map_some, Option.some.injEq] at hrow
      subst hrow
      have hj : j < size := by have := (List.getElem?_eq_some_iff.1 hc).1; rw [hf] at this; exact this
      have hi := (List.getElem?_eq_some_iff.1 hx).1
      have hlt : i * size + j < xs.length := by
        have : i * size + size ≤ l.length * size := by rw [← Nat.succ_mul]; exact Nat.mul_le_mul_right _ hi
        omega
      refine ⟨x, rfl, rfl, xs[i * size + j], List.getElem?_eq_getElem hlt, ?_⟩
      refine (hR x (List.mem_of_getElem? hx) _ (h6 i x hx)).2 j c _ hc ?_
      rw [List.getElem?_take, if_pos hj, List.getElem?_drop, List.getElem?_eq_getElem hlt]
  have hgo : ∃ g o, l ≠ [] → a = some ⟨g, o, none⟩ ∧ g < w.heap.size ∧ ∀ (j : Nat) (u : Value), xs[j]? = some u → w.cell? ⟨g, o + j, none⟩ = some u := by
    rcases h5 with h5 | ⟨g, o, q1, q2, q3⟩
    · exact ⟨0, 0, fun h => absurd (List.eq_nil_of_length_eq_zero h5) h⟩
    · exact ⟨g, o, fun _ => ⟨q1, q2, q3⟩⟩
  obtain ⟨g, o, hgo⟩ := hgo
  have := Rel.sl (ok := okW w) (w := w) (lv := lv) (size := size) (rows := l.map f) a cap (fun i j => xs.getD (i * size + j) undef) g o (by simpa using h1) h2 h4 (fun row hr => by obtain ⟨x, _, rfl⟩ := List.mem_map.1 hr; exact hf x)
    (fun hne => by have := hgo (by intro h; simp [h] at hne); exact ⟨this.1, this.2.1⟩) (fun i j row c hrow hc => by
      obtain ⟨x, hx, rfl, u, hu, hr⟩ := hget i j row c hrow hc
      have hne : l ≠ [] := by intro h; simp [h] at hx
      refine ⟨?_, hfc x c (List.mem_of_getElem? hc)⟩
      rw [Nat.add_assoc, (hgo hne).2.2 _ u hu]
      simp [hu]) (fun i j row c hrow hc => by
      obtain ⟨x, hx, rfl, u, hu, hr⟩ := hget i j row c hrow hc
      have : xs.getD (i * size + j) undef = u := by simp [hu]
      rw [this]; exact hr)
  simpa using this
theorem flat_slice {α : Type} {g : α → List Value} {size : Nat} (hg : ∀ x, (g x).length = size) {l : List α} {i : Nat} {x : α} (hx : l[i]? = some x) : ((l.flatMap g).drop (i * size)).take size = g x := by
  apply List.ext_getElem?
  intro j
  rw [List.getElem?_take]
  by_cases hj : j < size
  · rw [if_pos hj, List.getElem?_drop]
    have hu : (g x)[j]? = some ((g x)[j]'(by rw [hg]; exact hj)) := List.getElem?_eq_getElem _
    rw [hu]
    exact flat_get g size hg l i j x _ hx hu
  · rw [if_neg hj, List.getElem?_eq_none (by rw [hg]; omega)]
theorem seq_of_row {α : Type} {g : α → List Value} {size : Nat} (hg : ∀ x, (g x).length = size) {w : World} {v : Value} {l : List α} (h : Row w v size l.length (l.flatMap g)) : Seq (fun cs x => cs = g x) size w v l :=
  ⟨_, h, fun i x hx => flat_slice hg hx⟩
theorem relAll_v {ok : Nat → Prop} {w : World} {lv : Live} (vs : List Value) : ybr ok w lv (vs.map AV.v) vs := by
  refine ⟨by simp, fun i x u hx hu => ?_⟩
  rw [List.getElem?_map, hu] at hx
  cases hx
  exact .v u
theorem relAll_nil {ok : Nat → Prop} {w : World} {lv : Live} : ybr ok w lv [] [] := ⟨rfl, fun i x u hx hu => by simp at hx⟩
theorem relAll_cons {ok : Nat → Prop} {w : World} {lv : Live} {a : AV} {v : Value} {xs : List AV} {vs : List Value} (h : Rel ok w lv a v) (t : ybr ok w lv xs vs) : ybr ok w lv (a :: xs) (v :: vs) := by
  refine ⟨by simp [t.1], fun i x u hx hu => ?_⟩
  cases i with
  | zero => simp at hx hu; subst hx hu; exact h
  | succ i => simp at hx hu; exact t.2 i x u hx hu
theorem rel_plain {w : World} {lv : Live} {α : Type} {g : α → List Value} {size : Nat} (hg : ∀ x, (g x).length = size) (h1 : ∀ x, ∀ u ∈ g x, u.oneCell' = true) {v : Value} {l : List α} (h : Row w v size l.length (l.flatMap g)) : Rel (okW w) w lv (.sl size (l.map fun x => (g x).map AV.v)) v :=
  rel_of_seq (seq_of_row hg h) (fun x => by simp [hg]) (fun x c hc => by
    obtain ⟨u, hu, rfl⟩ := List.mem_map.1 hc
    exact h1 x u hu) (fun x _ cs hc => by subst hc; exact relAll_v _)
theorem okW_lt (w : World) : ∀ g, okW w g → g < w.heap.size := fun _ h => h
end Go.Proofs.YtcpgpiabeimefaaGreatDoor
namespace Go.Proofs.YtcpgpiabeimefaaGreatDoor
open Go.RowKit

def yhq : List Nat → Nat
  | [] => 0
  | a :: l => max a (yhq l)
def val (f : Int → Nat → Nat) : Ex → Nat
  | .lf t => f t.1 0
  | .un t a => f t.1 (val f a)
  | .bi t a b => f t.1 (max (val f a) (val f b))
  | .tr t a b c => f t.1 (max (val f a) (max (val f b) (val f c)))
def lev (f : Int → Nat → Nat) : List Tm → List Nat
  | [] => []
  | t :: l => f t.1 (yhq ((lev f l).take (ar t.1).toNat)) :: (lev f l).drop (ar t.1).toNat
theorem lev_forest (f : Int → Nat → Nat) (l : List Tm) : ∀ F, ydm l = some F → lev f l = F.map (val f) := by
  induction l with
  | nil => intro F h; simp [ydm] at h; subst h; rfl
  | cons t l ih =>
    intro F h
    simp only [ydm] at h
    cases hl : ydm l with
    | none => rw [hl] at h; cases h
    | some G =>
      have hG := ih G hl
      rw [hl] at h
      simp only at h
      simp only [lev, hG]
      by_cases a0 : ar t.1 = 0
      · rw [if_pos a0] at h; cases h
        rw [a0]; simp [yhq, val]
      rw [if_neg a0] at h
      by_cases a1 : ar t.1 = 1
      · rw [if_pos a1] at h
        match G, h with
        | a :: G, h => cases h; rw [a1]; simp [yhq, val]
      rw [if_neg a1] at h
      by_cases a2 : ar t.1 = 2
      · rw [if_pos a2] at h
        match G, h with
        | a :: b :: G, h => cases h; rw [a2]; simp [yhq, val]
      rw [if_neg a2] at h
      by_cases a3 : ar t.1 = 3
      · rw [if_pos a3] at h
        match G, h with
        | a :: b :: c :: G, h => cases h; rw [a3]; simp [yhq, val]
      rw [if_neg a3] at h; cases h
theorem forest_enough (l : List Tm) (t : Tm) (F : List Ex) (h : ydm (t :: l) = some F) : ∃ G, ydm l = some G ∧ 0 ≤ ar t.1 ∧ (ar t.1).toNat ≤ G.length ∧ F.length = G.length - (ar t.1).toNat + 1 := by
  simp only [ydm] at h
  cases hl : ydm l with
  | none => rw [hl] at h; cases h
  | some G =>
    rw [hl] at h
    simp only at h
    by_cases a0 : ar t.1 = 0
    · rw [if_pos a0] at h; cases h; exact ⟨G, rfl, by omega, by rw [a0]; simp, by rw [a0]; simp⟩
    rw [if_neg a0] at h
    by_cases a1 : ar t.1 = 1
    · rw [if_pos a1] at h
      match G, h with
      | a :: G, h => cases h; exact ⟨_, rfl, by omega, by rw [a1]; simp, by rw [a1]; simp⟩
    rw [if_neg a1] at h
    by_cases a2 : ar t.1 = 2
    · rw [if_pos a2] at h
      match G, h with
      | a :: b :: G, h => cases h; exact ⟨_, rfl, by omega, by rw [a2]; simp, by rw [a2]; simp⟩
    rw [if_neg a2] at h
    by_cases a3 : ar t.1 = 3
    · rw [if_pos a3] at h
      match G, h with
      | a :: b :: c :: G, h => cases h; exact ⟨_, rfl, by omega, by rw [a3]; simp, by rw [a3]; simp⟩
    rw [if_neg a3] at h; cases h
theorem forest_suffix (l : List Tm) : ∀ (k : Nat) (F : List Ex), ydm l = some F → ∃ G, ydm (l.drop k) = some G := by
  induction l with
  | nil => intro k F h; simp [ydm]
  | cons t l ih =>
    intro k F h
    cases k with
    | zero => exact ⟨F, h⟩
    | succ k =>
      obtain ⟨G, hG, _⟩ := forest_enough l t F h
      exact ih k G hG

def yfa : Int → Nat → Nat := fun _ g => g + 1
def yhd : Int → Nat → Nat := fun op g => if yhk op then g + 1 else g
theorem val_depth (E : Ex) : val yfa E = E.dp := by
  induction E with
  | lf t => rfl
  | un t a iha => simp only [val, Ex.dp, iha, yfa]
  | bi t a b iha ihb => simp only [val, Ex.dp, iha, ihb, yfa]
  | tr t a b c iha ihb ihc => simp only [val, Ex.dp, iha, ihb, ihc, yfa]
theorem agg_ar {op : Int} (h : yhk op = true) : ar op = 1 := by
  simp [yhk] at h
  unfold ar; rw [if_neg (by omega), if_neg (by omega), if_pos (by omega)]
theorem agg_no {op : Int} (h : ar op ≠ 1) : yhk op = false := by
  cases hb : yhk op
  · rfl
  · exact absurd (agg_ar hb) h
theorem val_nest (E : Ex) : E.ok → val yhd E = E.ns := by
  induction E with
  | lf t => intro h; have h' : ar t.1 = 0 := h; simp only [val, Ex.ns, yhd, agg_no (op := t.1) (by omega)]; rfl
  | un t a iha => intro ⟨h, ha⟩; simp only [val, Ex.ns, iha ha, yhd]
  | bi t a b iha ihb => intro ⟨h, ha, hb⟩; simp only [val, Ex.ns, iha ha, ihb hb, yhd, agg_no (op := t.1) (by omega)]; rfl
  | tr t a b c iha ihb ihc => intro ⟨h, ha, hb, hc⟩; simp only [val, Ex.ns, iha ha, ihb hb, ihc hc, yhd, agg_no (op := t.1) (by omega)]; rfl

abbrev Open := List (Nat × Bool)
def yez (k : Nat) (b : Bool) : Open → Open
  | [] => if k = 0 then [] else [(k, b)]
  | (x, c) :: S => if k = 0 then yez (x - 1) c S else (k, b) :: (x, c) :: S
def ykz : Open → Open
  | [] => []
  | (x, c) :: S => yez (x - 1) c S
def cnt (S : Open) : Nat := (S.filter (·.2)).length
structure Lev where
  S : Open
  d : Nat
  n : Nat
def ygk (s : Lev) (t : Tm) : Lev :=
  ⟨yez (ar t.1).toNat (yhk t.1) s.S, max s.d (s.S.length + 1), max s.n (cnt (((ar t.1).toNat, yhk t.1) :: s.S))⟩
def yli (s : Lev) (l : List Tm) : Lev := l.foldl ygk s
theorem levR_append (s : Lev) (l m : List Tm) : yli s (l ++ m) = yli (yli s l) m := by unfold yli; rw [List.foldl_append]
theorem levR_cons (s : Lev) (t : Tm) (l : List Tm) : yli s (t :: l) = yli (ygk s t) l := rfl
theorem closeK_pos (k : Nat) (b : Bool) (S : Open) (h : k ≠ 0) : yez k b S = (k, b) :: S := by
  cases S with
  | nil => simp [yez, h]
  | cons x S => obtain ⟨x, c⟩ := x; simp [yez, h]
theorem closeK_zero (b : Bool) (S : Open) : yez 0 b S = ykz S := by
  cases S with
  | nil => simp [yez, ykz]
  | cons x S => obtain ⟨x, c⟩ := x; simp [yez, ykz]
theorem finS_succ (k : Nat) (b : Bool) (S : Open) : ykz ((k + 2, b) :: S) = (k + 1, b) :: S := by
  simp only [ykz]; rw [closeK_pos _ _ _ (by omega)]; rfl
theorem finS_two (b : Bool) (S : Open) : ykz ((2, b) :: S) = (1, b) :: S := finS_succ 0 b S
theorem finS_three (b : Bool) (S : Open) : ykz ((3, b) :: S) = (2, b) :: S := finS_succ 1 b S
theorem finS_one (b : Bool) (S : Open) : ykz ((1, b) :: S) = ykz S := by simp only [ykz]; exact closeK_zero b S
theorem cnt_cons (k : Nat) (b : Bool) (S : Open) : cnt ((k, b) :: S) = cnt S + (if b then 1 else 0) := by
  unfold cnt; cases b <;> simp

theorem levR_fl (E : Ex) : E.ok → ∀ s : Lev, yli s E.fl = ⟨ykz s.S, max s.d (s.S.length + E.dp), max s.n (cnt s.S + E.ns)⟩ := by
  induction E with
  | lf t =>
    intro h s
    have h' : ar t.1 = 0 := h
    show ygk s t = _
    unfold ygk
    rw [h', agg_no (op := t.1) (by omega)]
    simp only [Int.toNat_zero, closeK_zero, cnt_cons, Ex.dp, Ex.ns]; rfl
  | un t a iha =>
    intro ⟨h, ha⟩ s
    simp only [Ex.fl, levR_cons]
    rw [iha ha]
    unfold ygk
    rw [h]
    simp only [Int.toNat_one, closeK_pos 1 _ _ (by omega), finS_one, List.length_cons, cnt_cons, Ex.dp, Ex.ns]
    congr 1
    · omega
    · split <;> omega
  | bi t a b iha ihb =>
    intro ⟨h, ha, hb⟩ s
    simp only [Ex.fl, levR_cons, levR_append]
    rw [iha ha, ihb hb]
    unfold ygk
    rw [h, agg_no (op := t.1) (by omega)]
    simp only [show (2 : Int).toNat = 2 from rfl, closeK_pos 2 _ _ (by omega), finS_two, finS_one, List.length_cons, cnt_cons, Ex.dp, Ex.ns]
    simp only [Lev.mk.injEq, Bool.false_eq_true, if_false, true_and]
    omega
  | tr t a b c iha ihb ihc =>
    intro ⟨h, ha, hb, hc⟩ s
    simp only [Ex.fl, levR_cons, levR_append]
    rw [iha ha, ihb hb, ihc hc]
    unfold ygk
    rw [h, agg_no (op := t.1) (by omega)]
    simp only [show (3 : Int).toNat = 3 from rfl, closeK_pos 3 _ _ (by omega), finS_three, finS_two, finS_one, List.length_cons, cnt_cons, Ex.dp, Ex.ns]
    simp only [Lev.mk.injEq, Bool.false_eq_true, if_false, true_and]
    omega
end Go.Proofs.YtcpgpiabeimefaaGreatDoor
namespace Go.Proofs.YtcpgpiabeimefaaGreatDoor
open Go.RowKit

def nearB (op : Int) : Bool := decide (11 ≤ op) && decide (op ≤ 17)
def leafTy (kinds : List Int) (t : Tm) : Int :=
  if t.1 = 2 ∨ t.1 = 3 ∨ t.1 = 10 ∨ t.1 = 15 then 2 else if t.1 = 4 ∨ t.1 = 11 ∨ t.1 = 17 then 3 else if t.1 = 5 ∨ t.1 = 12 then kinds.getD t.2.toNat 0 else 1
def ty1 (op a : Int) : Int :=
  if op = 19 ∨ op = 20 ∨ op = 21 then (if a = 2 then 2 else 0) else if op = 22 then (if a = 2 then 1 else 0) else if op = 23 then (if a = 2 then 3 else 0) else (if a = 1 then 1 else 0)
def ty2 (op a b : Int) : Int :=
  if op = 35 ∨ op = 36 then (if a = b ∧ a ≠ 0 then 2 else 0) else if op = 41 ∨ op = 42 then (if a = 2 ∧ b = 2 then 2 else 0) else if a = 1 ∧ b = 1 then (if 37 ≤ op ∧ op ≤ 40 then 2 else 1) else 0
def ty3 (a b c : Int) : Int := if a = 2 ∧ b = c then b else 0
def ty (kinds : List Int) : Bool → Ex → Int
  | bound, .lf t => if nearB t.1 && !bound then 0 else leafTy kinds t
  | bound, .un t a => ty1 t.1 (ty kinds (bound || yhk t.1) a)
  | bound, .bi t a b => ty2 t.1 (ty kinds bound a) (ty kinds bound b)
  | bound, .tr _ a b c => ty3 (ty kinds bound a) (ty kinds bound b) (ty kinds bound c)
end Go.Proofs.YtcpgpiabeimefaaGreatDoor
namespace Go.Proofs.YtcpgpiabeimefaaGreatDoor
open Go.RowKit

set_option maxHeartbeats 400000 in
theorem arity_any (op : Int) (w : World) : Calls Tryz.prog 87 #[.int .i64 op] w fun e w' => e = .returned (.int .i64 (ar op)) ∧ w = w' := by
  go_enter Tryz.func87, Tryz.ntmps87
  go_wp2
  all_goals go_ret
  all_goals exact ⟨ycn (by unfold ar; (repeat' split) <;> omega), rfl⟩
set_option maxHeartbeats 400000 in
theorem aggregate_any (op : Int) (w : World) : Calls Tryz.prog 91 #[.int .i64 op] w fun e w' => e = .returned (.bool (yhk op)) ∧ w = w' := by
  go_enter Tryz.func91, Tryz.ntmps91
  go_wp2
  all_goals go_ret
  all_goals exact ⟨yan (by rw [Bool.eq_iff_iff]; simp [yhk]; omega), rfl⟩
set_option maxHeartbeats 400000 in
theorem rarity_any (op : Int) (w : World) : Calls Tryz.prog 37 #[.int .i64 op] w fun e w' => e = .returned (.int .i64 (ar op)) ∧ w = w' := by
  go_enter Tryz.func37, Tryz.ntmps37
  go_wp2
  all_goals go_ret
  all_goals refine ⟨ycn ?_, rfl⟩
  all_goals try simp only [beq_iff_eq, beq_eq_false_iff_ne, ne_eq] at *
  all_goals (unfold ar; (repeat' split) <;> omega)
set_option maxHeartbeats 400000 in
theorem raggregate_any (op : Int) (w : World) : Calls Tryz.prog 73 #[.int .i64 op] w fun e w' => e = .returned (.bool (yhk op)) ∧ w = w' := by
  go_enter Tryz.func73, Tryz.ntmps73
  go_wp2
  all_goals go_ret
  all_goals exact ⟨yan (by rw [Bool.eq_iff_iff]; simp [yhk]; omega), rfl⟩

def yfp (w : World) (v : Value) (l : List Tm) : Prop := Row w v 2 l.length (l.flatMap fun t => [.int .i64 t.1, .int .i64 t.2])
theorem yfp.below {w w' : World} {v : Value} {l : List Tm} (h : yfp w v l) (hb : Below w.heap.size w w') : yfp w' v l := Row.below h hb
theorem yfp.open {w : World} {v : Value} {l : List Tm} (h : yfp w v l) : ∃ a cap, v = .slice a l.length cap ∧ l.length ≤ cap ∧ cap ≤ 9223372036854775807 ∧
    (0 < l.length → ∃ g o, a = some ⟨g, o, none⟩ ∧ g < w.heap.size ∧ ∀ i t, l[i]? = some t → w.cell? ⟨g, o + i * 2, none⟩ = some (.int .i64 t.1) ∧ w.cell? ⟨g, o + i * 2 + 1, none⟩ = some (.int .i64 t.2)) := by
  obtain ⟨a, cap, hv, h1, h2, h3, h4⟩ := Row.open h
  refine ⟨a, cap, hv, h1, h2, fun hn => ?_⟩
  obtain ⟨g, o, ha, hg, hc⟩ := h4 hn
  exact ⟨g, o, ha, hg, fun i t ht => ⟨hc _ _ (flat_get _ 2 (fun _ => rfl) l i 0 t _ ht rfl), hc _ _ (flat_get _ 2 (fun _ => rfl) l i 1 t _ ht rfl)⟩⟩

def yim (w k : Nat) (l : List Tm) : Int := match ykl w (l.drop k) with | none => -1 | some n => (k : Int) + n
theorem endR_none (m k : Nat) (l : List Tm) (hm : 1 ≤ m) (h : l.length ≤ k) : yim m k l = -1 := by
  obtain ⟨m, rfl⟩ : ∃ q, m = q + 1 := ⟨m - 1, by omega⟩
  unfold yim; rw [List.drop_eq_nil_of_le h, endN_nil]
theorem endR_bad (m k : Nat) (l : List Tm) (hm : 1 ≤ m) (h : k < l.length) (hn : ar l[k].1 < 0) : yim m k l = -1 := by
  obtain ⟨m, rfl⟩ : ∃ q, m = q + 1 := ⟨m - 1, by omega⟩
  unfold yim; rw [List.drop_eq_getElem_cons h, endN_bad _ _ _ hn]
theorem endR_step (m k : Nat) (l : List Tm) (hm : 1 ≤ m) (h : k < l.length) (hn : ¬ ar l[k].1 < 0) : yim m k l = yim (m + (ar l[k].1).toNat - 1) (k + 1) l := by
  obtain ⟨m, rfl⟩ : ∃ q, m = q + 1 := ⟨m - 1, by omega⟩
  unfold yim; rw [List.drop_eq_getElem_cons h, endN_step _ _ _ hn, show m + 1 + (ar l[k].1).toNat - 1 = m + (ar l[k].1).toNat by omega]
  cases ykl (m + (ar l[k].1).toNat) (l.drop (k + 1)) with
  | none => rfl
  | some n => simp; omega
theorem endR_done (m k : Nat) (l : List Tm) (hm : 1 ≤ m) (h : k < l.length) (hn : ¬ ar l[k].1 < 0) (hz : (m : Int) + (ar l[k].1 - 1) = 0) : yim m k l = k + 1 := by
  rw [endR_step m k l hm h hn, show m + (ar l[k].1).toNat - 1 = 0 by omega]
  unfold yim; rw [endN_zero]; simp

set_option maxHeartbeats 1000000 in
theorem argument_any (t : Tm) (vars : Int) (w : World) : Calls Tryz.prog 50 #[.agg #[.int .i64 t.1, .int .i64 t.2], .int .i64 vars] w fun e w' => e = .returned (.bool (yep vars t)) ∧ Below w.heap.size w w' := by
  obtain ⟨op, x⟩ := t
  have hcases : (op == 1) = true ∨ (op == 1) = false ∧ ((op == 5) = true ∨ (op == 5) = false ∧ ((op == 12) = true ∨ (op == 12) = false)) := by
    cases (op == 1) <;> cases (op == 5) <;> cases (op == 12) <;> simp
  rcases hcases with q0 | ⟨q0, q1 | ⟨q1, q2 | q2⟩⟩
  all_goals
    go_enter Tryz.func50, Tryz.ntmps50
    go_wp2
    all_goals go_ret
    all_goals refine ⟨yan ?_, (Below.refl _ _).alloc (Nat.le_refl _) _⟩
    all_goals simp only [beq_iff_eq, beq_eq_false_iff_ne, ne_eq] at *
    all_goals rw [Bool.eq_iff_iff]
    all_goals simp [yep, *]
    all_goals try omega

set_option maxHeartbeats 1000000 in
theorem rargument_any (t : Tm) (vars : Int) (w : World) : Calls Tryz.prog 64 #[.agg #[.int .i64 t.1, .int .i64 t.2], .int .i64 vars] w fun e w' => e = .returned (.bool (yep vars t)) ∧ Below w.heap.size w w' := by
  obtain ⟨op, x⟩ := t
  have hcases : (op == 1) = true ∨ (op == 1) = false ∧ ((op == 5) = true ∨ (op == 5) = false ∧ ((op == 12) = true ∨ (op == 12) = false)) := by
    cases (op == 1) <;> cases (op == 5) <;> cases (op == 12) <;> simp
  rcases hcases with q0 | ⟨q0, q1 | ⟨q1, q2 | q2⟩⟩
  all_goals
    go_enter Tryz.func64, Tryz.ntmps64
    go_wp2
    all_goals go_ret
    all_goals refine ⟨yan ?_, (Below.refl _ _).alloc (Nat.le_refl _) _⟩
    all_goals simp only [beq_iff_eq, beq_eq_false_iff_ne, ne_eq] at *
    all_goals rw [Bool.eq_iff_iff]
    all_goals simp [yep, *]
    all_goals try omega

set_option maxHeartbeats 1000000 in
theorem end_any_in (v : Value) (l : List Tm) (at_ : Nat) (w : World) (hl : l.length ≤ 1000) (hv : Hid (yfp w v l)) (ha : at_ < l.length) :
    Calls Tryz.prog 49 #[v, .int .i64 at_] w fun e w' => e = .returned (.int .i64 (yim 1 at_ l)) ∧ w = w' := by
  obtain ⟨a, cap, rfl, h1, h2, h3⟩ := hv.out.open
  obtain ⟨g, o, rfl, hg, hc⟩ := h3 (by omega)
  have HC := Lib.hid hc
  have b1 : decide ((at_ : Int) < 0) = false := by simp
  have b2 : decide (l.length ≤ at_) = false := by simp; omega
  clear hc h3
  go_enter Tryz.func49, Tryz.ntmps49
  go_wp2
  go_loop [1, 5, 6] (fun i x _ => ∃ k m : Nat, k ≤ l.length ∧ 1 ≤ m ∧ m ≤ 2 * k + 1 ∧ i = .int .i64 k ∧ x = .int .i64 m ∧ Hid (yim 1 at_ l = yim m k l)) (fun i _ _ => l.length - (intOf i).toNat)
  case atStart => exact ⟨at_, 1, by omega, by omega, by omega, rfl, rfl, rfl⟩
  case round =>
    obtain ⟨k, m, hk, hm1, hm2, rfl, rfl, he⟩ := hrel
    by_cases hlt : k < l.length
    · obtain ⟨c0, c1⟩ := HC.out k _ (List.getElem?_eq_getElem hlt)
      have hb := ar_bd l[k].1
      have hb1 := hb.1
      have hb2 := hb.2
      clear hb
      have HD := Lib.hid (List.drop_eq_getElem_cons hlt)
      by_cases hneg : ar l[k].1 < 0
      · go_wp2_with (go_at_call 87; refine (arity_any _ _).mono ?_; rintro e w' ⟨rfl, rfl⟩)
        go_ret
        exact ⟨ycn (by rw [he.out, endR_bad m k l hm1 hlt hneg]), rfl⟩
      · by_cases hz : (m : Int) + (ar l[k].1 - 1) = 0
        · have hz' : ((m : Int) + (ar l[k].1 - 1) == 0) = true := by simp; omega
          have HZ := Lib.hid hz
          clear hz
          go_wp2_with (go_at_call 87; refine (arity_any _ _).mono ?_; rintro e w' ⟨rfl, rfl⟩)
          go_ret
          exact ⟨ycn (by rw [he.out, endR_done m k l hm1 hlt (by omega) HZ.out]), rfl⟩
        · have hz' : ((m : Int) + (ar l[k].1 - 1) == 0) = false := by simp; omega
          go_wp2_with (go_at_call 87; refine (arity_any _ _).mono ?_; rintro e w' ⟨rfl, rfl⟩)
          exact ⟨⟨k + 1, m + (ar l[k].1).toNat - 1, by omega, by omega, by omega, by go_num, by congr 1; omega, he.out.trans (endR_step m k l hm1 hlt (by omega))⟩, by simp [intOf]; omega⟩
    · go_wp2
      go_ret
      exact ⟨ycn (by rw [he.out, endR_none m k l hm1 (by omega)]), rfl⟩

set_option maxHeartbeats 1000000 in
theorem rend_any_in (v : Value) (l : List Tm) (at_ : Nat) (w : World) (hl : l.length ≤ 1000) (hv : Hid (yfp w v l)) (ha : at_ < l.length) :
    Calls Tryz.prog 36 #[v, .int .i64 at_] w fun e w' => e = .returned (.int .i64 (yim 1 at_ l)) ∧ w = w' := by
  obtain ⟨a, cap, rfl, h1, h2, h3⟩ := hv.out.open
  obtain ⟨g, o, rfl, hg, hc⟩ := h3 (by omega)
  have HC := Lib.hid hc
  have b1 : decide ((at_ : Int) < 0) = false := by simp
  have b2 : decide (l.length ≤ at_) = false := by simp; omega
  clear hc h3
  go_enter Tryz.func36, Tryz.ntmps36
  go_wp2
  go_loop [5, 6, 7] (fun x i _ => ∃ k m : Nat, k ≤ l.length ∧ 1 ≤ m ∧ m ≤ 2 * k + 1 ∧ i = .int .i64 k ∧ x = .int .i64 m ∧ Hid (yim 1 at_ l = yim m k l)) (fun _ i _ => l.length - (intOf i).toNat)
  case atStart => exact ⟨at_, 1, by omega, by omega, by omega, rfl, rfl, rfl⟩
  case round =>
    obtain ⟨k, m, hk, hm1, hm2, rfl, rfl, he⟩ := hrel
    by_cases hlt : k < l.length
    · obtain ⟨c0, c1⟩ := HC.out k _ (List.getElem?_eq_getElem hlt)
      have hb := ar_bd l[k].1
      have hb1 := hb.1
      have hb2 := hb.2
      clear hb
      have HD := Lib.hid (List.drop_eq_getElem_cons hlt)
      by_cases hneg : ar l[k].1 < 0
      · go_wp2_with (go_at_call 37; refine (rarity_any _ _).mono ?_; rintro e w' ⟨rfl, rfl⟩)
        go_ret
        exact ⟨ycn (by rw [he.out, endR_bad m k l hm1 hlt hneg]), rfl⟩
      · by_cases hz : (m : Int) + (ar l[k].1 - 1) = 0
        · have hz' : ((m : Int) + (ar l[k].1 - 1) == 0) = true := by simp; omega
          have HZ := Lib.hid hz
          clear hz
          go_wp2_with (go_at_call 37; refine (rarity_any _ _).mono ?_; rintro e w' ⟨rfl, rfl⟩)
          go_ret
          exact ⟨ycn (by rw [he.out, endR_done m k l hm1 hlt (by omega) HZ.out]), rfl⟩
        · have hz' : ((m : Int) + (ar l[k].1 - 1) == 0) = false := by simp; omega
          go_wp2_with (go_at_call 37; refine (rarity_any _ _).mono ?_; rintro e w' ⟨rfl, rfl⟩)
          exact ⟨⟨k + 1, m + (ar l[k].1).toNat - 1, by omega, by omega, by omega, by go_num, by congr 1; omega, he.out.trans (endR_step m k l hm1 hlt (by omega))⟩, by simp [intOf]; omega⟩
    · go_wp2
      go_ret
      exact ⟨ycn (by rw [he.out, endR_none m k l hm1 (by omega)]), rfl⟩
end Go.Proofs.YtcpgpiabeimefaaGreatDoor
set_option maxRecDepth 100000
namespace Go.Proofs.YtcpgpiabeimefaaGreatDoor
open Go.ChangeShapes Go.WideShapes Go.RowKit

theorem cellsInt : Tryz.prog.cellsOf 3 = 1 := by kernel_rfl
theorem cellsTerm : Tryz.prog.cellsOf 38 = 2 := by kernel_rfl
section
variable {H : Type} {enc : TypeId × Value → H} {w : World} {cs : List Value} {v : Value} {base : Nat} {d : DataW H} {ps : List MemPlace}
def TermIn (t : Tm) : Prop := In64 t.1 ∧ In64 t.2
theorem rd_term (h : Rd enc Tryz.prog w 38 cs) : ∃ t : Tm, cs = [.int .i64 t.1, .int .i64 t.2] ∧ TermIn t := by
  obtain ⟨h1, h2⟩ := rd_struct Tryz.underlying38 h
  rw [cellsTerm] at h1
  match cs, h1 with
  | [a, b], _ =>
    have g0 := h2 0 _ rfl
    have g1 := h2 1 _ rfl
    simp [cellsInt] at g0 g1
    obtain ⟨x, hx, hx'⟩ := rd_int64 Tryz.underlying3 g0
    obtain ⟨y, hy, hy'⟩ := rd_int64 Tryz.underlying3 g1
    simp at hx hy
    exact ⟨(x, y), by simp [hx, hy], hx', hy'⟩
theorem terms_of_seq {l : List Tm} (h : Seq (fun cs (t : Tm) => cs = [.int .i64 t.1, .int .i64 t.2] ∧ TermIn t) 2 w v l) : yfp w v l ∧ ∀ t ∈ l, TermIn t := by
  refine ⟨seq_flat (fun t : Tm => [.int .i64 t.1, .int .i64 t.2]) (fun _ => rfl) (by omega) h (fun cs x h => h.1), fun x hx => ?_⟩
  obtain ⟨xs, _, h2⟩ := h
  obtain ⟨i, hi⟩ := List.getElem?_of_mem hx
  exact (h2 i x hi).2
theorem open_terms (hv : Value.okWide Tryz.prog w .any base 25 v) (h : DataW.Trod enc Tryz.prog w 0 (fun _ => true) true 25 v d ps) : ∃ l, yfp w v l ∧ ∀ t ∈ l, TermIn t := by
  obtain ⟨l, hl⟩ := open_seq_arg (R := fun cs (t : Tm) => cs = [.int .i64 t.1, .int .i64 t.2] ∧ TermIn t) Tryz.underlying25 cellsTerm (Nat.succ_pos 1) (fun cs h => rd_term h) hv h
  exact ⟨l, terms_of_seq hl⟩
end
end Go.Proofs.YtcpgpiabeimefaaGreatDoor
set_option linter.unusedVariables false
set_option maxRecDepth 100000
namespace Go.Proofs.YtcpgpiabeimefaaGreatDoor
open Go.ChangeShapes Go.WideShapes Go.RowKit

structure VarD where
  name : ByteArray
  kind : Int
  lo : Int
  hi : Int
  perNode : Int
  perID : Int
structure SetD where
  var : Int
  val : List Tm
structure RuleD where
  name : ByteArray
  guard : List Tm
  sets : List SetD
structure ProgD where
  name : ByteArray
  vars : List VarD
  rules : List RuleD

section
variable {H : Type} {enc : TypeId × Value → H} {w : World} {cs : List Value} {v : Value} {base : Nat} {d : DataW H} {ps : List MemPlace}
end
end Go.Proofs.YtcpgpiabeimefaaGreatDoor
set_option linter.unusedVariables false
set_option maxRecDepth 100000
namespace Go.Proofs.YtcpgpiabeimefaaGreatDoor
open Go.RowKit

def ydg (t : Tm) : List AV := [i64 t.1, i64 t.2]
def ybc (l : List Tm) : AV := .sl 2 (l.map ydg)
structure FaultD where
  node : Int
  var : Int
  value : Int
theorem seq_of_rel {α : Type} {f : α → List AV} {R : List Value → α → Prop} {ok : Nat → Prop} {w : World} {lv : Live} {size : Nat} {l : List α} {v : Value} (h : Rel ok w lv (.sl size (l.map f)) v) (hok : ∀ g, ok g → g < w.heap.size)
    (hR : ∀ x ∈ l, ∀ cs, ybr ok w (fun _ => none) (f x) cs → R cs x) : Seq R size w v l := by
  cases h with
  | sl a cap u g o hn hc ha hsz hg hcell hrel =>
    simp only [List.length_map] at hn ⊢
    have hfl : ∀ x ∈ l, (f x).length = size := fun x hx => hsz _ (List.mem_map_of_mem hx)
    refine ⟨(List.range (l.length * size)).map fun j => u (j / size) (j % size), ⟨a, cap, rfl, hn, hc, by simp, ha, ?_⟩, fun i x hx => ?_⟩
    · rcases Nat.eq_zero_or_pos l.length with h0 | h0
      · exact .inl h0
      · obtain ⟨rfl, hok'⟩ := hg (by intro h; simp at h; simp [h] at h0)
        refine .inr ⟨g, o, rfl, hok g hok', fun j v hj => ?_⟩
        have hlt := (List.getElem?_eq_some_iff.1 hj).1
        simp only [List.length_map, List.length_range] at hlt
        rw [List.getElem?_map, List.getElem?_range hlt] at hj
        simp only [Option.map_some, Option.some.injEq] at hj
        have hs0 : 0 < size := by
          rcases Nat.eq_zero_or_pos size with h | h
          · simp [h] at hlt
          · exact h
        have hi : j / size < l.length := by rw [Nat.div_lt_iff_lt_mul hs0]; exact hlt
        have hx := List.getElem?_eq_getElem hi
        have hm : j % size < (f l[j / size]).length := by rw [hfl _ (List.getElem_mem hi)]; exact Nat.mod_lt _ hs0
        have := (hcell (j / size) (j % size) (f l[j / size]) _ (by simp [hx]) (List.getElem?_eq_getElem hm)).1
        rw [← hj, ← this]
        congr 2
        rw [Nat.add_assoc, Nat.mul_comm, Nat.div_add_mod]
    · refine hR x (List.mem_of_getElem? hx) _ ⟨?_, fun j c v hc hv => ?_⟩
      · have hi := (List.getElem?_eq_some_iff.1 hx).1
        rw [hfl x (List.mem_of_getElem? hx), List.length_take, List.length_drop, List.length_map, List.length_range]
        have : i * size + size ≤ l.length * size := by rw [← Nat.succ_mul]; exact Nat.mul_le_mul_right _ hi
        omega
      · have hj : j < size := by have := (List.getElem?_eq_some_iff.1 hc).1; rw [hfl x (List.mem_of_getElem? hx)] at this; exact this
        have hi := (List.getElem?_eq_some_iff.1 hx).1
        have hlt : i * size + j < l.length * size := by
          have : i * size + size ≤ l.length * size := by rw [← Nat.succ_mul]; exact Nat.mul_le_mul_right _ hi
          omega
        rw [List.getElem?_take, if_pos hj, List.getElem?_drop, List.getElem?_map, List.getElem?_range hlt] at hv
        simp only [Option.map_some, Option.some.injEq] at hv
        have e1 : (i * size + j) / size = i := by rw [Nat.add_comm, Nat.add_mul_div_right _ _ (by omega), Nat.div_eq_of_lt hj, Nat.zero_add]
        have e2 : (i * size + j) % size = j := by rw [Nat.add_comm, Nat.add_mul_mod_self_right, Nat.mod_eq_of_lt hj]
        rw [e1, e2] at hv
        subst hv
        exact hrel i j (f x) c (by simp [hx]) hc
theorem rowFlat {α : Type} {g : α → List Value} {size : Nat} {w : World} {v : Value} {l : List α} (hg : ∀ x, (g x).length = size) (h0 : 0 < size) (h : Seq (fun cs x => cs = g x) size w v l) : Row w v size l.length (l.flatMap g) := seq_flat g hg h0 h fun cs x h => h

theorem terms_of_rel {ok : Nat → Prop} {w : World} {lv : Live} {l : List Tm} {v : Value} (h : Rel ok w lv (ybc l) v) (hok : ∀ g, ok g → g < w.heap.size) : yfp w v l :=
  rowFlat (g := fun t : Tm => [.int .i64 t.1, .int .i64 t.2]) (fun _ => rfl) (by omega) (seq_of_rel h hok fun x _ cs hr => by
    obtain ⟨u, v, rfl, h1, h2⟩ := relAll2 hr
    rw [yfv h1, yfv h2])
end Go.Proofs.YtcpgpiabeimefaaGreatDoor
set_option maxRecDepth 100000
namespace Go.Proofs.YtcpgpiabeimefaaGreatDoor
open Go.RowKit

set_option maxHeartbeats 400000 in
theorem letter_any (c : UInt8) (w : World) :
    Calls Tryz.prog 74 #[.int .u8 (c.toNat : Int)] w fun e w' => e = .returned (.bool (yce c)) ∧ w = w' := by
  go_enter Tryz.func74, Tryz.ntmps74
  go_wp2
  all_goals go_ret
  all_goals exact ⟨yan (by rw [Bool.eq_iff_iff]; simp [yce, UInt8.le_iff_toNat_le]; omega), rfl⟩

set_option maxHeartbeats 400000 in
theorem digit_any (c : UInt8) (w : World) :
    Calls Tryz.prog 79 #[.int .u8 (c.toNat : Int)] w fun e w' => e = .returned (.bool (ybq c)) ∧ w = w' := by
  go_enter Tryz.func79, Tryz.ntmps79
  go_wp2
  all_goals go_ret
  all_goals exact ⟨yan (by rw [Bool.eq_iff_iff]; simp [ybq, UInt8.le_iff_toNat_le]; omega), rfl⟩

set_option maxHeartbeats 400000 in
theorem inWord_any (c : UInt8) (w : World) :
    Calls Tryz.prog 75 #[.int .u8 (c.toNat : Int)] w fun e w' => e = .returned (.bool (ydu c)) ∧ w = w' := by
  go_enter Tryz.func75, Tryz.ntmps75
  cases h1 : yce c <;> cases h2 : ybq c
  all_goals
    go_wp2_with (first | (go_at_call 74; refine (letter_any _ _).mono ?_; rintro e w' ⟨rfl, rfl⟩) | (go_at_call 79; refine (digit_any _ _).mono ?_; rintro e w' ⟨rfl, rfl⟩))
    go_ret
    exact ⟨yan (by rw [Bool.eq_iff_iff]; simp [ydu, h1, h2, ← UInt8.toNat_inj]; try omega), rfl⟩
set_option maxHeartbeats 400000 in
theorem rletter_any (c : UInt8) (w : World) :
    Calls Tryz.prog 92 #[.int .u8 (c.toNat : Int)] w fun e w' => e = .returned (.bool (yce c)) ∧ w = w' := by
  go_enter Tryz.func92, Tryz.ntmps92
  go_wp2
  all_goals go_ret
  all_goals exact ⟨yan (by rw [Bool.eq_iff_iff]; simp [yce, UInt8.le_iff_toNat_le]; omega), rfl⟩

set_option maxHeartbeats 400000 in
theorem rdigit_any (c : UInt8) (w : World) :
    Calls Tryz.prog 95 #[.int .u8 (c.toNat : Int)] w fun e w' => e = .returned (.bool (ybq c)) ∧ w = w' := by
  go_enter Tryz.func95, Tryz.ntmps95
  go_wp2
  all_goals go_ret
  all_goals exact ⟨yan (by rw [Bool.eq_iff_iff]; simp [ybq, UInt8.le_iff_toNat_le]; omega), rfl⟩

set_option maxHeartbeats 400000 in
theorem rinner_any (c : UInt8) (w : World) :
    Calls Tryz.prog 93 #[.int .u8 (c.toNat : Int)] w fun e w' => e = .returned (.bool (ydu c)) ∧ w = w' := by
  go_enter Tryz.func93, Tryz.ntmps93
  cases h1 : yce c <;> cases h2 : ybq c
  all_goals
    go_wp2_with (first | (go_at_call 92; refine (rletter_any _ _).mono ?_; rintro e w' ⟨rfl, rfl⟩) | (go_at_call 95; refine (rdigit_any _ _).mono ?_; rintro e w' ⟨rfl, rfl⟩))
    go_ret
    exact ⟨yan (by rw [Bool.eq_iff_iff]; simp [ydu, h1, h2, ← UInt8.toNat_inj]; try omega), rfl⟩

set_option maxHeartbeats 1000000 in
theorem skip_any (s : ByteArray) (a : Nat) (w : World) (hs : s.size ≤ 20000) (ha : a ≤ s.size) :
    Calls Tryz.prog 41 #[.string s, .int .i64 a] w fun e w' => e = .returned (.int .i64 (ybg s false a)) ∧ w = w' := by
  go_enter Tryz.func41, Tryz.ntmps41
  go_wp2
  go_loop [1] (fun i => ∃ k : Nat, k ≤ s.size ∧ i = .int .i64 k ∧ Hid (ybg s false a = ybg s false k)) (fun i => s.size - (intOf i).toNat)
  case atStart => exact ⟨a, ha, rfl, rfl⟩
  case round =>
    obtain ⟨k, hk, rfl, hk2⟩ := hrel
    by_cases hlt : k < s.size
    · go_wp2
      all_goals try simp only [beq_iff_eq, beq_eq_false_iff_ne, ne_eq] at *
      iterate 4 exact ⟨⟨k + 1, by omega, by go_num, hk2.out.trans (skipTo_blank s k hlt (by simp [← UInt8.toNat_inj]; omega))⟩, by simp [intOf]; omega⟩
      · go_loop [1] (fun i => ∃ j : Nat, k ≤ j ∧ j ≤ s.size ∧ i = .int .i64 j ∧ (k < j ∨ (j = k ∧ s[k].toNat = 35)) ∧ Hid (ybg s false a = ybg s true j)) (fun i => s.size - (intOf i).toNat)
        case atStart => exact ⟨k, by omega, by omega, rfl, .inr ⟨rfl, by omega⟩, hk2.out.trans (skipTo_hash s k hlt (by simp [← UInt8.toNat_inj]; omega))⟩
        case round =>
          obtain ⟨j, hj, hj', rfl, hjk, hj2⟩ := hrel
          by_cases hlj : j < s.size
          · go_wp2
            all_goals try simp only [bne_iff_ne, bne_eq_false_iff_eq, ne_eq] at *
            · exact ⟨⟨j + 1, by omega, by omega, by go_num, .inl (by omega), hj2.out.trans (skipTo_in s j hlj (by simp [← UInt8.toNat_inj]; omega))⟩, by simp [intOf]; omega⟩
            · have hkj : k < j := by rcases hjk with h | ⟨rfl, h⟩ <;> omega
              exact ⟨⟨j, by omega, rfl, hj2.out.trans (skipTo_nl s j hlj (by simp [← UInt8.toNat_inj]; omega))⟩, by simp [intOf]; omega⟩
          · go_wp2
            exact ⟨⟨j, by omega, rfl, hj2.out.trans (by rw [skipTo_end _ _ _ (by omega), skipTo_end _ _ _ (by omega)])⟩, by simp [intOf]; omega⟩
      · go_ret
        rw [hk2.out, skipTo_stop _ _ hlt (by simp [← UInt8.toNat_inj]; omega) (by simp [← UInt8.toNat_inj]; omega)]
        exact ⟨rfl, rfl⟩
    · go_wp2
      go_ret
      rw [hk2.out, skipTo_end _ _ _ (by omega)]
      exact ⟨rfl, rfl⟩

def NumRet (ds : List UInt8) (w : World) (e : Ending) (w' : World) : Prop :=
  w = w' ∧ ((∃ v : Nat, ygr ds = some v ∧ e = .returned (.tuple #[.int .i64 v, .bool true])) ∨ (∃ u : Int, ygr ds = none ∧ e = .returned (.tuple #[.int .i64 u, .bool false])))

set_option maxHeartbeats 1000000 in
theorem number_any (s : ByteArray) (w : World) (hs : s.size ≤ 20000) (h0 : 0 < s.size) (hd : Hid (∀ c ∈ yaj s 0, ybq c = true)) :
    Calls Tryz.prog 80 #[.string s] w (NumRet (yaj s 0) w) := by
  have hh : Hid _ := Lib.hid (head_bytes s h0)
  have hl : Hid _ := Lib.hid (ycg s 0)
  go_enter Tryz.func80, Tryz.ntmps80
  go_wp2
  · go_ret2
    exact ⟨rfl, .inr ⟨0, numRes_zero _ (by rw [hl.out]; omega) (by rw [hh.out]; simp [← UInt8.toNat_inj]; omega), rfl⟩⟩
  all_goals
    have hz : Hid (¬ (1 < (yaj s 0).length ∧ (yaj s 0).head? = some 48)) := Lib.hid (by rw [hl.out, hh.out]; simp [← UInt8.toNat_inj]; omega)
    go_loop [4, 5, 16] (fun v _ i => ∃ k n : Nat, k ≤ s.size ∧ i = .int .i64 k ∧ n ≤ 1073741824 ∧ v = .int .i64 n ∧ Hid (n = yjh 0 ((yaj s 0).take k))) (fun _ _ i => s.size - (intOf i).toNat)
    case atStart => exact ⟨0, 0, by omega, rfl, by omega, rfl, by rw [List.take_zero, numL_nil]; rfl⟩
    case round =>
      obtain ⟨k, n, hk, rfl, hn, rfl, hv⟩ := hrel
      by_cases hlt : k < s.size
      · have hb := digit_bd s[k] (hd.out _ (mem_bytes s k hlt))
        have hb1 := hb.1
        have hb2 := hb.2
        clear hb
        go_wp2
        · go_ret2
          exact ⟨rfl, .inr ⟨0, numRes_big _ (k + 1) (by rw [num_step s k hlt, ← hv.out]; have := dig_int n s[k] hb1; omega), rfl⟩⟩
        · have hdi := dig_int n s[k] hb1
          exact ⟨⟨k + 1, dig n s[k], by omega, by go_num, by omega, by rw [hdi], by rw [num_step s k hlt, ← hv.out]; rfl⟩, by simp [intOf]; omega⟩
      · go_wp2
        go_ret2
        have h1 := hv.out
        rw [take_all _ _ (by omega)] at h1
        exact ⟨rfl, .inl ⟨n, by rw [h1]; exact numRes_ok _ hz.out (by omega), rfl⟩⟩

end Go.Proofs.YtcpgpiabeimefaaGreatDoor
set_option maxRecDepth 100000
namespace Go.Proofs.YtcpgpiabeimefaaGreatDoor
open Go.RowKit

theorem reserved_any (s : ByteArray) (w : World) :
    Calls Tryz.prog 76 #[.string s] w fun e w' => e = .returned (.bool (yla s)) ∧ w = w' := by
  rcases Bool.eq_false_or_eq_true (s.toList == [112, 114, 111, 103, 114, 97, 109]) with q0 | q0
  · have H := Lib.hid (yay s _ (by decide) q0)
    go_enter Tryz.func76, Tryz.ntmps76
    go_wp2
    go_ret
    exact ⟨yan H.out.symm, rfl⟩
  rcases Bool.eq_false_or_eq_true (s.toList == [118, 97, 114]) with q1 | q1
  · have H := Lib.hid (yay s _ (by decide) q1)
    go_enter Tryz.func76, Tryz.ntmps76
    go_wp2
    go_ret
    exact ⟨yan H.out.symm, rfl⟩
  rcases Bool.eq_false_or_eq_true (s.toList == [114, 117, 108, 101]) with q2 | q2
  · have H := Lib.hid (yay s _ (by decide) q2)
    go_enter Tryz.func76, Tryz.ntmps76
    go_wp2
    go_ret
    exact ⟨yan H.out.symm, rfl⟩
  rcases Bool.eq_false_or_eq_true (s.toList == [98, 111, 111, 108]) with q3 | q3
  · have H := Lib.hid (yay s _ (by decide) q3)
    go_enter Tryz.func76, Tryz.ntmps76
    go_wp2
    go_ret
    exact ⟨yan H.out.symm, rfl⟩
  rcases Bool.eq_false_or_eq_true (s.toList == [112, 111, 114, 116]) with q4 | q4
  · have H := Lib.hid (yay s _ (by decide) q4)
    go_enter Tryz.func76, Tryz.ntmps76
    go_wp2
    go_ret
    exact ⟨yan H.out.symm, rfl⟩
  rcases Bool.eq_false_or_eq_true (s.toList == [116, 114, 117, 101]) with q5 | q5
  · have H := Lib.hid (yay s _ (by decide) q5)
    go_enter Tryz.func76, Tryz.ntmps76
    go_wp2
    go_ret
    exact ⟨yan H.out.symm, rfl⟩
  rcases Bool.eq_false_or_eq_true (s.toList == [102, 97, 108, 115, 101]) with q6 | q6
  · have H := Lib.hid (yay s _ (by decide) q6)
    go_enter Tryz.func76, Tryz.ntmps76
    go_wp2
    go_ret
    exact ⟨yan H.out.symm, rfl⟩
  rcases Bool.eq_false_or_eq_true (s.toList == [110, 111, 110, 101]) with q7 | q7
  · have H := Lib.hid (yay s _ (by decide) q7)
    go_enter Tryz.func76, Tryz.ntmps76
    go_wp2
    go_ret
    exact ⟨yan H.out.symm, rfl⟩
  rcases Bool.eq_false_or_eq_true (s.toList == [110]) with q8 | q8
  · have H := Lib.hid (yay s _ (by decide) q8)
    go_enter Tryz.func76, Tryz.ntmps76
    go_wp2
    go_ret
    exact ⟨yan H.out.symm, rfl⟩
  rcases Bool.eq_false_or_eq_true (s.toList == [105, 100, 115]) with q9 | q9
  · have H := Lib.hid (yay s _ (by decide) q9)
    go_enter Tryz.func76, Tryz.ntmps76
    go_wp2
    go_ret
    exact ⟨yan H.out.symm, rfl⟩
  rcases Bool.eq_false_or_eq_true (s.toList == [105, 100]) with q10 | q10
  · have H := Lib.hid (yay s _ (by decide) q10)
    go_enter Tryz.func76, Tryz.ntmps76
    go_wp2
    go_ret
    exact ⟨yan H.out.symm, rfl⟩
  rcases Bool.eq_false_or_eq_true (s.toList == [100, 101, 103]) with q11 | q11
  · have H := Lib.hid (yay s _ (by decide) q11)
    go_enter Tryz.func76, Tryz.ntmps76
    go_wp2
    go_ret
    exact ⟨yan H.out.symm, rfl⟩
  rcases Bool.eq_false_or_eq_true (s.toList == [114, 111, 111, 116]) with q12 | q12
  · have H := Lib.hid (yay s _ (by decide) q12)
    go_enter Tryz.func76, Tryz.ntmps76
    go_wp2
    go_ret
    exact ⟨yan H.out.symm, rfl⟩
  rcases Bool.eq_false_or_eq_true (s.toList == [113]) with q13 | q13
  · have H := Lib.hid (yay s _ (by decide) q13)
    go_enter Tryz.func76, Tryz.ntmps76
    go_wp2
    go_ret
    exact ⟨yan H.out.symm, rfl⟩
  rcases Bool.eq_false_or_eq_true (s.toList == [119, 101, 105, 103, 104, 116]) with q14 | q14
  · have H := Lib.hid (yay s _ (by decide) q14)
    go_enter Tryz.func76, Tryz.ntmps76
    go_wp2
    go_ret
    exact ⟨yan H.out.symm, rfl⟩
  rcases Bool.eq_false_or_eq_true (s.toList == [98, 97, 99, 107]) with q15 | q15
  · have H := Lib.hid (yay s _ (by decide) q15)
    go_enter Tryz.func76, Tryz.ntmps76
    go_wp2
    go_ret
    exact ⟨yan H.out.symm, rfl⟩
  rcases Bool.eq_false_or_eq_true (s.toList == [97, 108, 108]) with q16 | q16
  · have H := Lib.hid (yay s _ (by decide) q16)
    go_enter Tryz.func76, Tryz.ntmps76
    go_wp2
    go_ret
    exact ⟨yan H.out.symm, rfl⟩
  rcases Bool.eq_false_or_eq_true (s.toList == [115, 111, 109, 101]) with q17 | q17
  · have H := Lib.hid (yay s _ (by decide) q17)
    go_enter Tryz.func76, Tryz.ntmps76
    go_wp2
    go_ret
    exact ⟨yan H.out.symm, rfl⟩
  rcases Bool.eq_false_or_eq_true (s.toList == [99, 111, 117, 110, 116]) with q18 | q18
  · have H := Lib.hid (yay s _ (by decide) q18)
    go_enter Tryz.func76, Tryz.ntmps76
    go_wp2
    go_ret
    exact ⟨yan H.out.symm, rfl⟩
  rcases Bool.eq_false_or_eq_true (s.toList == [102, 105, 114, 115, 116]) with q19 | q19
  · have H := Lib.hid (yay s _ (by decide) q19)
    go_enter Tryz.func76, Tryz.ntmps76
    go_wp2
    go_ret
    exact ⟨yan H.out.symm, rfl⟩
  rcases Bool.eq_false_or_eq_true (s.toList == [109, 105, 110]) with q20 | q20
  · have H := Lib.hid (yay s _ (by decide) q20)
    go_enter Tryz.func76, Tryz.ntmps76
    go_wp2
    go_ret
    exact ⟨yan H.out.symm, rfl⟩
  rcases Bool.eq_false_or_eq_true (s.toList == [109, 97, 120]) with q21 | q21
  · have H := Lib.hid (yay s _ (by decide) q21)
    go_enter Tryz.func76, Tryz.ntmps76
    go_wp2
    go_ret
    exact ⟨yan H.out.symm, rfl⟩
  rcases Bool.eq_false_or_eq_true (s.toList == [115, 117, 109]) with q22 | q22
  · have H := Lib.hid (yay s _ (by decide) q22)
    go_enter Tryz.func76, Tryz.ntmps76
    go_wp2
    go_ret
    exact ⟨yan H.out.symm, rfl⟩
  rcases Bool.eq_false_or_eq_true (s.toList == [109, 101, 120]) with q23 | q23
  · have H := Lib.hid (yay s _ (by decide) q23)
    go_enter Tryz.func76, Tryz.ntmps76
    go_wp2
    go_ret
    exact ⟨yan H.out.symm, rfl⟩
  rcases Bool.eq_false_or_eq_true (s.toList == [115, 101, 99, 111, 110, 100]) with q24 | q24
  · have H := Lib.hid (yay s _ (by decide) q24)
    go_enter Tryz.func76, Tryz.ntmps76
    go_wp2
    go_ret
    exact ⟨yan H.out.symm, rfl⟩
  rcases Bool.eq_false_or_eq_true (s.toList == [104, 101, 97, 100]) with q25 | q25
  · have H := Lib.hid (yay s _ (by decide) q25)
    go_enter Tryz.func76, Tryz.ntmps76
    go_wp2
    go_ret
    exact ⟨yan H.out.symm, rfl⟩
  have H := Lib.hid (resB_no s q0 q1 q2 q3 q4 q5 q6 q7 q8 q9 q10 q11 q12 q13 q14 q15 q16 q17 q18 q19 q20 q21 q22 q23 q24 q25)
  go_enter Tryz.func76, Tryz.ntmps76
  go_wp2
  go_ret
  exact ⟨yan H.out.symm, rfl⟩

set_option maxHeartbeats 4000000 in
theorem rreserved_any (s : ByteArray) (w : World) :
    Calls Tryz.prog 94 #[.string s] w fun e w' => e = .returned (.bool (yla s)) ∧ w = w' := by
  rcases Bool.eq_false_or_eq_true (s.toList == [112, 114, 111, 103, 114, 97, 109]) with q0 | q0
  · have H := Lib.hid (yay s _ (by decide) q0)
    go_enter Tryz.func94, Tryz.ntmps94
    go_wp2
    go_ret
    exact ⟨yan H.out.symm, rfl⟩
  rcases Bool.eq_false_or_eq_true (s.toList == [118, 97, 114]) with q1 | q1
  · have H := Lib.hid (yay s _ (by decide) q1)
    go_enter Tryz.func94, Tryz.ntmps94
    go_wp2
    go_ret
    exact ⟨yan H.out.symm, rfl⟩
  rcases Bool.eq_false_or_eq_true (s.toList == [114, 117, 108, 101]) with q2 | q2
  · have H := Lib.hid (yay s _ (by decide) q2)
    go_enter Tryz.func94, Tryz.ntmps94
    go_wp2
    go_ret
    exact ⟨yan H.out.symm, rfl⟩
  rcases Bool.eq_false_or_eq_true (s.toList == [98, 111, 111, 108]) with q3 | q3
  · have H := Lib.hid (yay s _ (by decide) q3)
    go_enter Tryz.func94, Tryz.ntmps94
    go_wp2
    go_ret
    exact ⟨yan H.out.symm, rfl⟩
  rcases Bool.eq_false_or_eq_true (s.toList == [112, 111, 114, 116]) with q4 | q4
  · have H := Lib.hid (yay s _ (by decide) q4)
    go_enter Tryz.func94, Tryz.ntmps94
    go_wp2
    go_ret
    exact ⟨yan H.out.symm, rfl⟩
  rcases Bool.eq_false_or_eq_true (s.toList == [116, 114, 117, 101]) with q5 | q5
  · have H := Lib.hid (yay s _ (by decide) q5)
    go_enter Tryz.func94, Tryz.ntmps94
    go_wp2
    go_ret
    exact ⟨yan H.out.symm, rfl⟩
  rcases Bool.eq_false_or_eq_true (s.toList == [102, 97, 108, 115, 101]) with q6 | q6
  · have H := Lib.hid (yay s _ (by decide) q6)
    go_enter Tryz.func94, Tryz.ntmps94
    go_wp2
    go_ret
    exact ⟨yan H.out.symm, rfl⟩
  rcases Bool.eq_false_or_eq_true (s.toList == [110, 111, 110, 101]) with q7 | q7
  · have H := Lib.hid (yay s _ (by decide) q7)
    go_enter Tryz.func94, Tryz.ntmps94
    go_wp2
    go_ret
    exact ⟨yan H.out.symm, rfl⟩
  rcases Bool.eq_false_or_eq_true (s.toList == [110]) with q8 | q8
  · have H := Lib.hid (yay s _ (by decide) q8)
    go_enter Tryz.func94, Tryz.ntmps94
    go_wp2
    go_ret
    exact ⟨yan H.out.symm, rfl⟩
  rcases Bool.eq_false_or_eq_true (s.toList == [105, 100, 115]) with q9 | q9
  · have H := Lib.hid (yay s _ (by decide) q9)
    go_enter Tryz.func94, Tryz.ntmps94
    go_wp2
    go_ret
    exact ⟨yan H.out.symm, rfl⟩
  rcases Bool.eq_false_or_eq_true (s.toList == [105, 100]) with q10 | q10
  · have H := Lib.hid (yay s _ (by decide) q10)
    go_enter Tryz.func94, Tryz.ntmps94
    go_wp2
    go_ret
    exact ⟨yan H.out.symm, rfl⟩
  rcases Bool.eq_false_or_eq_true (s.toList == [100, 101, 103]) with q11 | q11
  · have H := Lib.hid (yay s _ (by decide) q11)
    go_enter Tryz.func94, Tryz.ntmps94
    go_wp2
    go_ret
    exact ⟨yan H.out.symm, rfl⟩
  rcases Bool.eq_false_or_eq_true (s.toList == [114, 111, 111, 116]) with q12 | q12
  · have H := Lib.hid (yay s _ (by decide) q12)
    go_enter Tryz.func94, Tryz.ntmps94
    go_wp2
    go_ret
    exact ⟨yan H.out.symm, rfl⟩
  rcases Bool.eq_false_or_eq_true (s.toList == [113]) with q13 | q13
  · have H := Lib.hid (yay s _ (by decide) q13)
    go_enter Tryz.func94, Tryz.ntmps94
    go_wp2
    go_ret
    exact ⟨yan H.out.symm, rfl⟩
  rcases Bool.eq_false_or_eq_true (s.toList == [119, 101, 105, 103, 104, 116]) with q14 | q14
  · have H := Lib.hid (yay s _ (by decide) q14)
    go_enter Tryz.func94, Tryz.ntmps94
    go_wp2
    go_ret
    exact ⟨yan H.out.symm, rfl⟩
  rcases Bool.eq_false_or_eq_true (s.toList == [98, 97, 99, 107]) with q15 | q15
  · have H := Lib.hid (yay s _ (by decide) q15)
    go_enter Tryz.func94, Tryz.ntmps94
    go_wp2
    go_ret
    exact ⟨yan H.out.symm, rfl⟩
  rcases Bool.eq_false_or_eq_true (s.toList == [97, 108, 108]) with q16 | q16
  · have H := Lib.hid (yay s _ (by decide) q16)
    go_enter Tryz.func94, Tryz.ntmps94
    go_wp2
    go_ret
    exact ⟨yan H.out.symm, rfl⟩
  rcases Bool.eq_false_or_eq_true (s.toList == [115, 111, 109, 101]) with q17 | q17
  · have H := Lib.hid (yay s _ (by decide) q17)
    go_enter Tryz.func94, Tryz.ntmps94
    go_wp2
    go_ret
    exact ⟨yan H.out.symm, rfl⟩
  rcases Bool.eq_false_or_eq_true (s.toList == [99, 111, 117, 110, 116]) with q18 | q18
  · have H := Lib.hid (yay s _ (by decide) q18)
    go_enter Tryz.func94, Tryz.ntmps94
    go_wp2
    go_ret
    exact ⟨yan H.out.symm, rfl⟩
  rcases Bool.eq_false_or_eq_true (s.toList == [102, 105, 114, 115, 116]) with q19 | q19
  · have H := Lib.hid (yay s _ (by decide) q19)
    go_enter Tryz.func94, Tryz.ntmps94
    go_wp2
    go_ret
    exact ⟨yan H.out.symm, rfl⟩
  rcases Bool.eq_false_or_eq_true (s.toList == [109, 105, 110]) with q20 | q20
  · have H := Lib.hid (yay s _ (by decide) q20)
    go_enter Tryz.func94, Tryz.ntmps94
    go_wp2
    go_ret
    exact ⟨yan H.out.symm, rfl⟩
  rcases Bool.eq_false_or_eq_true (s.toList == [109, 97, 120]) with q21 | q21
  · have H := Lib.hid (yay s _ (by decide) q21)
    go_enter Tryz.func94, Tryz.ntmps94
    go_wp2
    go_ret
    exact ⟨yan H.out.symm, rfl⟩
  rcases Bool.eq_false_or_eq_true (s.toList == [115, 117, 109]) with q22 | q22
  · have H := Lib.hid (yay s _ (by decide) q22)
    go_enter Tryz.func94, Tryz.ntmps94
    go_wp2
    go_ret
    exact ⟨yan H.out.symm, rfl⟩
  rcases Bool.eq_false_or_eq_true (s.toList == [109, 101, 120]) with q23 | q23
  · have H := Lib.hid (yay s _ (by decide) q23)
    go_enter Tryz.func94, Tryz.ntmps94
    go_wp2
    go_ret
    exact ⟨yan H.out.symm, rfl⟩
  rcases Bool.eq_false_or_eq_true (s.toList == [115, 101, 99, 111, 110, 100]) with q24 | q24
  · have H := Lib.hid (yay s _ (by decide) q24)
    go_enter Tryz.func94, Tryz.ntmps94
    go_wp2
    go_ret
    exact ⟨yan H.out.symm, rfl⟩
  rcases Bool.eq_false_or_eq_true (s.toList == [104, 101, 97, 100]) with q25 | q25
  · have H := Lib.hid (yay s _ (by decide) q25)
    go_enter Tryz.func94, Tryz.ntmps94
    go_wp2
    go_ret
    exact ⟨yan H.out.symm, rfl⟩
  have H := Lib.hid (resB_no s q0 q1 q2 q3 q4 q5 q6 q7 q8 q9 q10 q11 q12 q13 q14 q15 q16 q17 q18 q19 q20 q21 q22 q23 q24 q25)
  go_enter Tryz.func94, Tryz.ntmps94
  go_wp2
  go_ret
  exact ⟨yan H.out.symm, rfl⟩

theorem name_any (s : ByteArray) (w : World) (hs : s.size ≤ 9223372036854775807) :
    Calls Tryz.prog 39 #[.string s] w fun e w' => e = .returned (.bool (yhy s)) ∧ w = w' := by
  by_cases h0 : s.size = 0
  · have H := Lib.hid (nameB_empty s h0)
    have h0' : s.size < 1 := by omega
    clear h0
    go_enter Tryz.func39, Tryz.ntmps39
    go_wp2
    go_ret
    exact ⟨yan H.out.symm, rfl⟩
  have h0' : 0 < s.size := by omega
  clear h0
  by_cases h24 : 24 < s.size
  · have H := Lib.hid (nameB_long s h24)
    go_enter Tryz.func39, Tryz.ntmps39
    go_wp2
    go_ret
    exact ⟨yan H.out.symm, rfl⟩
  cases hl : yce s[0]
  · have H := Lib.hid (nameB_letter s h0' hl)
    go_enter Tryz.func39, Tryz.ntmps39
    go_wp2_with (go_at_call 74; refine (letter_any _ _).mono ?_; rintro e w' ⟨rfl, rfl⟩)
    go_ret
    exact ⟨yan H.out.symm, rfl⟩
  go_enter Tryz.func39, Tryz.ntmps39
  go_wp2_with (go_at_call 74; refine (letter_any _ _).mono ?_; rintro e w' ⟨rfl, rfl⟩)
  go_loop [3, 20] (fun _ i => ∃ k : Nat, k ≤ s.size ∧ i = .int .i64 k ∧ Hid (((yaj s 0).take k).all ydu = true)) (fun _ i => s.size - (intOf i).toNat)
  case atStart => exact ⟨0, by omega, rfl, rfl⟩
  case round =>
    obtain ⟨k, hk, rfl, ha⟩ := hrel
    by_cases hlt : k < s.size
    · cases hw : ydu s[k]
      · have H := Lib.hid (nameB_word s k hlt hw)
        go_wp2_with (go_at_call 75; refine (inWord_any _ _).mono ?_; rintro e w' ⟨rfl, rfl⟩)
        go_ret
        exact ⟨yan H.out.symm, rfl⟩
      · have H := Lib.hid (all_snoc s k hlt ha.out hw)
        go_wp2_with (go_at_call 75; refine (inWord_any _ _).mono ?_; rintro e w' ⟨rfl, rfl⟩)
        exact ⟨⟨k + 1, by omega, by go_num, H⟩, by simp [intOf]; omega⟩
    · obtain rfl : k = s.size := by omega
      have H := Lib.hid (nameB_rest s h0' (by omega) hl ha.out)
      go_wp2_with (go_at_call 76; refine (reserved_any _ _).mono ?_; rintro e w' ⟨rfl, rfl⟩)
      go_ret
      exact ⟨yan H.out.symm, rfl⟩

set_option maxHeartbeats 1000000 in
theorem rname_any (s : ByteArray) (w : World) (hs : s.size ≤ 9223372036854775807) :
    Calls Tryz.prog 53 #[.string s] w fun e w' => e = .returned (.bool (yhy s)) ∧ w = w' := by
  by_cases h0 : s.size = 0
  · have H := Lib.hid (nameB_empty s h0)
    have h0' : s.size < 1 := by omega
    clear h0
    go_enter Tryz.func53, Tryz.ntmps53
    go_wp2
    go_ret
    exact ⟨yan H.out.symm, rfl⟩
  have h0' : 0 < s.size := by omega
  clear h0
  by_cases h24 : 24 < s.size
  · have H := Lib.hid (nameB_long s h24)
    go_enter Tryz.func53, Tryz.ntmps53
    go_wp2
    go_ret
    exact ⟨yan H.out.symm, rfl⟩
  cases hl : yce s[0]
  · have H := Lib.hid (nameB_letter s h0' hl)
    go_enter Tryz.func53, Tryz.ntmps53
    go_wp2_with (go_at_call 92; refine (rletter_any _ _).mono ?_; rintro e w' ⟨rfl, rfl⟩)
    go_ret
    exact ⟨yan H.out.symm, rfl⟩
  go_enter Tryz.func53, Tryz.ntmps53
  go_wp2_with (go_at_call 92; refine (rletter_any _ _).mono ?_; rintro e w' ⟨rfl, rfl⟩)
  go_loop [3] (fun i => ∃ k : Nat, k ≤ s.size ∧ i = .int .i64 k ∧ Hid (((yaj s 0).take k).all ydu = true)) (fun i => s.size - (intOf i).toNat)
  case atStart => exact ⟨1, by omega, rfl, by rw [ybj s 0 h0']; show (List.take 1 _).all ydu = true; simp [ydu, hl]⟩
  case round =>
    obtain ⟨k, hk, rfl, ha⟩ := hrel
    by_cases hlt : k < s.size
    · cases hw : ydu s[k]
      · have H := Lib.hid (nameB_word s k hlt hw)
        go_wp2_with (go_at_call 93; refine (rinner_any _ _).mono ?_; rintro e w' ⟨rfl, rfl⟩)
        go_ret
        exact ⟨yan H.out.symm, rfl⟩
      · have H := Lib.hid (all_snoc s k hlt ha.out hw)
        go_wp2_with (go_at_call 93; refine (rinner_any _ _).mono ?_; rintro e w' ⟨rfl, rfl⟩)
        exact ⟨⟨k + 1, by omega, by go_num, H⟩, by simp [intOf]; omega⟩
    · obtain rfl : k = s.size := by omega
      have H := Lib.hid (nameB_rest s h0' (by omega) hl ha.out)
      go_wp2_with (go_at_call 94; refine (rreserved_any _ _).mono ?_; rintro e w' ⟨rfl, rfl⟩)
      go_ret
      exact ⟨yan H.out.symm, rfl⟩

end Go.Proofs.YtcpgpiabeimefaaGreatDoor
