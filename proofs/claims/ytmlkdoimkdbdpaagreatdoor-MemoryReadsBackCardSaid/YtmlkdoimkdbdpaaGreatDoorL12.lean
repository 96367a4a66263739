/- Part 12 of the texts under MemoryReadsAndWrites,MemoryReadsBack: joined, with what it needs alone. -/
import Derived.Below
import Derived.WalkSmall
import Derived.Test.YtmlkdoimkdbdpaaGreatDoorRows
import Derived.WalkKit
import Derived.WalkSpells
import Derived.WalkLawsBesides
import Derived.Lib.Hide
import Derived.Deep.Slices
import Derived.ChangeArms
import Derived.OpenShut
import Derived.WideShapes
namespace Go.Proofs.YtmlkdoimkdbdpaaGreatDoor
open Go.RowKit

theorem bcell {W w1 : World} (hb : Below W.heap.size W w1) : (∀ b o, b < W.heap.size → w1.cell? ⟨b, o, none⟩ = W.cell? ⟨b, o, none⟩) ∧ (∀ b o, b < W.heap.size → w1.frozen? ⟨b, o, none⟩ = W.frozen? ⟨b, o, none⟩) :=
  ⟨fun b o h => hb.cell (p := ⟨b, o, none⟩) h, fun b o h => hb.frozen (p := ⟨b, o, none⟩) h⟩
theorem ydn {w w1 w2 : World} (h1 : Below w.heap.size w w1) (h2 : Below w1.heap.size w1 w2) : Below w.heap.size w w2 := h1.trans (h2.mono h1.size)
theorem bdrew {w w1 : World} (h1 : Below w.heap.size w w1) (n : Nat) : Below w.heap.size w (w1.drewN n) := below_drewN h1 n
theorem yal {a b : Bool} (h : a = b) : Ending.returned (.bool a) = .returned (.bool b) := by rw [h]
theorem ybh {k : IntKind} {a b : Int} (h : a = b) : Ending.returned (.int k a) = .returned (.int k b) := by rw [h]

def Row (w : World) (v : Value) (size n : Nat) (xs : List Value) : Prop :=
  ∃ a cap, v = .slice a n cap ∧ n ≤ cap ∧ cap ≤ maxLen ∧ xs.length = n * size ∧ (a = none → cap = 0) ∧
    (n = 0 ∨ ∃ g o, a = some ⟨g, o, none⟩ ∧ g < w.heap.size ∧ ∀ j u, xs[j]? = some u → w.cell? ⟨g, o + j, none⟩ = some u)

theorem Row.below {w w' : World} {v : Value} {size n : Nat} {xs : List Value} (h : Row w v size n xs) (hb : Below w.heap.size w w') : Row w' v size n xs := by
  obtain ⟨a, cap, hv, h1, h2, h3, h4, h5⟩ := h
  refine ⟨a, cap, hv, h1, h2, h3, h4, ?_⟩
  rcases h5 with h5 | ⟨g, o, ha, hg, hc⟩
  · exact .inl h5
  · exact .inr ⟨g, o, ha, Nat.lt_of_lt_of_le hg hb.size, fun j u hu => (hb.cell (p := ⟨g, _, none⟩) hg).trans (hc j u hu)⟩
theorem yel {w w' : World} {B e size n : Nat} {v : Value} {xs : List Value} (h : w.ownsRow B e size v n xs) (hb : Below w.heap.size w w') : w'.ownsRow B e size v n xs := by
  obtain ⟨h1, h2⟩ := h
  refine ⟨h1, ?_⟩
  rcases h2 with h2 | ⟨g, cap, cur, hv, hg, hh, r⟩
  · exact .inl h2
  · exact .inr ⟨g, cap, cur, hv, hg, by rw [hb.block g (by rcases Nat.lt_or_ge g w.heap.size with h | h; exact h; simp [Array.getElem?_eq_none h] at hh)]; exact hh, r⟩
theorem own_shape {w : World} {B e size n : Nat} {v : Value} {xs : List Value} (h : w.ownsRow B e size v n xs) : ∃ a cap, v = .slice a n cap := by
  rcases h.2 with ⟨rfl, rfl⟩ | ⟨g, cap, cur, hv, _⟩
  · exact ⟨_, _, rfl⟩
  · exact ⟨_, _, hv⟩
theorem own_ge {w : World} {B e size n : Nat} {v : Value} {xs : List Value} (h : w.ownsRow B e size v n xs) : ∀ k, v.ownBlock = some k → B ≤ k := fun k hk => (h.lt k hk).1
theorem new_cells (W : World) (l : List Value) (e n : Nat) (hn : n = W.heap.size) : ∀ j u, l[j]? = some u → (W.alloc (.cells l.toArray e)).cell? ((⟨n, 0, none⟩ : Addr).add j) = some u := by
  intro j u h
  subst hn
  have h0 : (⟨W.heap.size, 0, none⟩ : Addr).add j = ⟨W.heap.size, j, none⟩ := by
    unfold Addr.add
    split <;> simp_all
  rw [h0]
  have h1 : (W.alloc (.cells l.toArray e)).heap[W.heap.size]? = some (.cells l.toArray e) := by
    show (W.heap.push (.cells l.toArray e))[W.heap.size]? = _
    rw [Array.getElem?_push, if_pos rfl]
  unfold World.cell?
  simp only [h1]
  simpa using h

theorem row_of_own {w : World} {B e size n : Nat} {v : Value} {xs : List Value} (h : w.ownsRow B e size v n xs) : Row w v size n xs := by
  obtain ⟨h1, h2⟩ := h
  rcases h2 with ⟨rfl, rfl⟩ | ⟨g, cap, cur, hv, hg, hh, hle, hcap, hcs, htk⟩
  · exact ⟨none, 0, rfl, by omega, by simp [maxLen], h1, fun _ => rfl, .inl rfl⟩
  · refine ⟨some ⟨g, 0, none⟩, cap, hv, hle, hcap, h1, (fun h => by cases h), .inr ⟨g, 0, rfl, ?_, fun j u hu => ?_⟩⟩
    · rcases Nat.lt_or_ge g w.heap.size with h | h
      · exact h
      · simp [Array.getElem?_eq_none h] at hh
    · have hj : (cur.toList.take (n * size))[j]? = some u := by rw [htk]; exact hu
      rw [List.getElem?_take] at hj
      unfold World.cell?
      simp only [hh, Nat.zero_add]
      split at hj
      · simpa using hj
      · cases hj
theorem row_nil (w : World) (size : Nat) : Row w (.slice none 0 0) size 0 [] := ⟨none, 0, rfl, by simp, by simp [maxLen], by simp, fun _ => rfl, .inl rfl⟩

theorem Row.open {w : World} {v : Value} {size n : Nat} {xs : List Value} (h : Row w v size n xs) : ∃ a cap, v = .slice a n cap ∧ n ≤ cap ∧ cap ≤ 9223372036854775807 ∧ (a = none → cap = 0) ∧
    (0 < n → ∃ g o, a = some ⟨g, o, none⟩ ∧ g < w.heap.size ∧ ∀ j u, xs[j]? = some u → w.cell? ⟨g, o + j, none⟩ = some u) := by
  obtain ⟨a, cap, hv, h1, h2, h3, h4, h5⟩ := h
  unfold maxLen at h2
  refine ⟨a, cap, hv, h1, by omega, h4, fun hn => ?_⟩
  rcases h5 with h5 | h5
  · omega
  · exact h5

theorem flat_get {α : Type} (f : α → List Value) (k : Nat) (hf : ∀ x, (f x).length = k) (l : List α) : ∀ (i j : Nat) (x : α) (u : Value), l[i]? = some x → (f x)[j]? = some u → (l.flatMap f)[i * k + j]? = some u := by
  induction l with
  | nil => intro i j x u h; simp at h
  | cons y l ih =>
    intro i j x u h hu
    rw [List.flatMap_cons]
    have hj : j < k := by have := (List.getElem?_eq_some_iff.1 hu).1; rw [hf] at this; exact this
    cases i with
    | zero =>
      simp at h; subst h
      rw [Nat.zero_mul, Nat.zero_add, List.getElem?_append_left (by rw [hf]; exact hj)]; exact hu
    | succ i =>
      rw [Nat.succ_mul, List.getElem?_append_right (by rw [hf]; omega), hf, show i * k + k + j - k = i * k + j by omega]
      exact ih i j x u (by simpa using h) hu
theorem flat_len {α : Type} (f : α → List Value) (k : Nat) (hf : ∀ x, (f x).length = k) (l : List α) : (l.flatMap f).length = l.length * k := by
  induction l with
  | nil => simp
  | cons y l ih => rw [List.flatMap_cons, List.length_append, hf, ih, List.length_cons, Nat.succ_mul]; omega

theorem row_alloc_off (W : World) (xs ys : List Value) (e size n cap o : Nat) (hn : n ≤ cap) (hc : cap ≤ 9223372036854775807) (hy : ys.length = n * size) (hxs : ∀ j u, ys[j]? = some u → xs[o + j]? = some u) :
    Row (W.alloc (.cells xs.toArray e)) (.slice (some ⟨W.heap.size, o, none⟩) n cap) size n ys := by
  refine ⟨_, cap, rfl, hn, by unfold maxLen; omega, hy, (fun h => by cases h), .inr ⟨_, o, rfl, by simp, fun j u hu => ?_⟩⟩
  have h1 : (W.alloc (.cells xs.toArray e)).heap[W.heap.size]? = some (.cells xs.toArray e) := by
    show (W.heap.push (.cells xs.toArray e))[W.heap.size]? = _
    rw [Array.getElem?_push, if_pos rfl]
  unfold World.cell?
  simp only [h1]
  have := hxs j u hu
  simpa using this
theorem row_alloc (W : World) (xs : List Value) (e size n : Nat) (hn : n ≤ 9223372036854775807) (hy : xs.length = n * size) :
    Row (W.alloc (.cells xs.toArray e)) (.slice (some ⟨W.heap.size, 0, none⟩) n n) size n xs :=
  row_alloc_off W xs xs e size n n 0 (Nat.le_refl _) hn hy (fun j u h => by rw [Nat.zero_add]; exact h)

def Ints (k : IntKind) (w : World) (v : Value) (l : List Int) : Prop := Row w v 1 l.length (l.map (.int k))
theorem Ints.below {k : IntKind} {w w' : World} {v : Value} {l : List Int} (h : Ints k w v l) (hb : Below w.heap.size w w') : Ints k w' v l := Row.below h hb
theorem Ints.open {k : IntKind} {w : World} {v : Value} {l : List Int} (h : Ints k w v l) : ∃ a cap, v = .slice a l.length cap ∧ l.length ≤ cap ∧ cap ≤ 9223372036854775807 ∧ (a = none → cap = 0) ∧
    (0 < l.length → ∃ g o, a = some ⟨g, o, none⟩ ∧ g < w.heap.size ∧ ∀ i x, l[i]? = some x → w.cell? ⟨g, o + i, none⟩ = some (.int k x)) := by
  obtain ⟨a, cap, hv, h1, h2, h3, h4⟩ := Row.open h
  refine ⟨a, cap, hv, h1, h2, h3, fun hn => ?_⟩
  obtain ⟨g, o, ha, hg, hc⟩ := h4 hn
  exact ⟨g, o, ha, hg, fun i x hx => hc i _ (by rw [List.getElem?_map, hx]; rfl)⟩
end Go.Proofs.YtmlkdoimkdbdpaaGreatDoor
namespace Go.Proofs.YtmlkdoimkdbdpaaGreatDoor
open Go.RowKit

abbrev Tm := Int × Int

def ar (op : Int) : Int := if op < 1 ∨ 43 < op then -1 else if op ≤ 17 then 0 else if op ≤ 29 then 1 else if op ≤ 42 then 2 else 3
def aggB (op : Int) : Bool := decide (20 ≤ op) && decide (op ≤ 29)
theorem ar_bd (op : Int) : -1 ≤ ar op ∧ ar op ≤ 3 := by unfold ar; repeat' split
                                                        all_goals omega

inductive Ex where
  | lf (t : Tm)
  | un (t : Tm) (a : Ex)
  | bi (t : Tm) (a b : Ex)
  | tr (t : Tm) (a b c : Ex)

namespace Ex
def fl : Ex → List Tm
  | lf t => [t]
  | un t a => t :: a.fl
  | bi t a b => t :: (a.fl ++ b.fl)
  | tr t a b c => t :: (a.fl ++ (b.fl ++ c.fl))
def ok : Ex → Prop
  | lf t => ar t.1 = 0
  | un t a => ar t.1 = 1 ∧ a.ok
  | bi t a b => ar t.1 = 2 ∧ a.ok ∧ b.ok
  | tr t a b c => ar t.1 = 3 ∧ a.ok ∧ b.ok ∧ c.ok
def dp : Ex → Nat
  | lf _ => 1
  | un _ a => a.dp + 1
  | bi _ a b => max a.dp b.dp + 1
  | tr _ a b c => max a.dp (max b.dp c.dp) + 1
def ns : Ex → Nat
  | lf _ => 0
  | un t a => if aggB t.1 then a.ns + 1 else a.ns
  | bi _ a b => max a.ns b.ns
  | tr _ a b c => max a.ns (max b.ns c.ns)
theorem fl_pos (E : Ex) : 1 ≤ E.fl.length := by cases E <;> simp [fl]
end Ex

def endN : Nat → List Tm → Option Nat
  | 0, _ => some 0
  | _ + 1, [] => none
  | w + 1, t :: l => if ar t.1 < 0 then none else (endN (w + (ar t.1).toNat) l).map (· + 1)
theorem endN_zero (l : List Tm) : endN 0 l = some 0 := by cases l <;> rfl
theorem endN_nil (w : Nat) : endN (w + 1) [] = none := rfl
theorem endN_bad (w : Nat) (t : Tm) (l : List Tm) (h : ar t.1 < 0) : endN (w + 1) (t :: l) = none := by simp only [endN]; rw [if_pos h]
theorem endN_step (w : Nat) (t : Tm) (l : List Tm) (h : ¬ ar t.1 < 0) : endN (w + 1) (t :: l) = (endN (w + (ar t.1).toNat) l).map (· + 1) := by simp only [endN]; rw [if_neg h]
theorem endN_fl (E : Ex) : E.ok → ∀ (w : Nat) (r : List Tm), endN (w + 1) (E.fl ++ r) = (endN w r).map (· + E.fl.length) := by
  induction E with
  | lf t =>
    intro h w r
    have h' : ar t.1 = 0 := h
    simp only [Ex.fl, List.cons_append, List.nil_append]
    rw [endN_step w t r (by omega), h']; rfl
  | un t a iha =>
    intro ⟨h, ha⟩ w r
    simp only [Ex.fl, List.cons_append]
    rw [endN_step w t _ (by omega), h, show w + (1 : Int).toNat = w + 1 from rfl, iha ha, Option.map_map]
    congr 1
  | bi t a b iha ihb =>
    intro ⟨h, ha, hb⟩ w r
    simp only [Ex.fl, List.cons_append, List.append_assoc]
    rw [endN_step w t _ (by omega), h, show w + (2 : Int).toNat = (w + 1) + 1 from rfl, iha ha, ihb hb, Option.map_map, Option.map_map]
    congr 1
    funext x; simp [List.length_append]; omega
  | tr t a b c iha ihb ihc =>
    intro ⟨h, ha, hb, hc⟩ w r
    simp only [Ex.fl, List.cons_append, List.append_assoc]
    rw [endN_step w t _ (by omega), h, show w + (3 : Int).toNat = ((w + 1) + 1) + 1 from rfl, iha ha, ihb hb, ihc hc, Option.map_map, Option.map_map, Option.map_map]
    congr 1
    funext x; simp [List.length_append]; omega

def ydk : List Tm → Option (List Ex)
  | [] => some []
  | t :: l =>
    match ydk l with
    | none => none
    | some F =>
      if ar t.1 = 0 then some (.lf t :: F)
      else if ar t.1 = 1 then (match F with | a :: F => some (.un t a :: F) | _ => none)
      else if ar t.1 = 2 then (match F with | a :: b :: F => some (.bi t a b :: F) | _ => none)
      else if ar t.1 = 3 then (match F with | a :: b :: c :: F => some (.tr t a b c :: F) | _ => none)
      else none
theorem forest_fl (E : Ex) : E.ok → ∀ (r : List Tm) (F : List Ex), ydk r = some F → ydk (E.fl ++ r) = some (E :: F) := by
  induction E with
  | lf t => intro h r F hr; have h' : ar t.1 = 0 := h; simp [Ex.fl, ydk, hr, h']
  | un t a iha => intro ⟨h, ha⟩ r F hr; simp [Ex.fl, ydk, iha ha r F hr, h]
  | bi t a b iha ihb => intro ⟨h, ha, hb⟩ r F hr; simp [Ex.fl, ydk, iha ha _ _ (ihb hb r F hr), h]
  | tr t a b c iha ihb ihc => intro ⟨h, ha, hb, hc⟩ r F hr; simp [Ex.fl, ydk, iha ha _ _ (ihb hb _ _ (ihc hc r F hr)), h]
def flAll (F : List Ex) : List Tm := F.flatMap Ex.fl
theorem forest_inv (l : List Tm) : ∀ F, ydk l = some F → (∀ E ∈ F, E.ok) ∧ flAll F = l := by
  induction l with
  | nil => intro F h; simp [ydk] at h; subst h; simp [flAll]
  | cons t l ih =>
    intro F h
    simp only [ydk] at h
    cases hl : ydk l with
    | none => rw [hl] at h; cases h
    | some G =>
      obtain ⟨h1, h2⟩ := ih G hl
      rw [hl] at h
      simp only at h
      by_cases a0 : ar t.1 = 0
      · rw [if_pos a0] at h; cases h
        refine ⟨fun E hE => ?_, by simp only [flAll, List.flatMap_cons, Ex.fl] at *; rw [h2]; rfl⟩
        cases hE with
        | head => exact a0
        | tail _ hE => exact h1 E hE
      rw [if_neg a0] at h
      by_cases a1 : ar t.1 = 1
      · rw [if_pos a1] at h
        match G, h, h1, h2 with
        | a :: G, h, h1, h2 =>
          cases h
          refine ⟨fun E hE => ?_, by simp only [flAll, List.flatMap_cons, Ex.fl] at *; rw [← h2]; rfl⟩
          cases hE with
          | head => exact ⟨a1, h1 a (List.mem_cons_self ..)⟩
          | tail _ hE => exact h1 E (List.mem_cons_of_mem _ hE)
      rw [if_neg a1] at h
      by_cases a2 : ar t.1 = 2
      · rw [if_pos a2] at h
        match G, h, h1, h2 with
        | a :: b :: G, h, h1, h2 =>
          cases h
          refine ⟨fun E hE => ?_, by simp only [flAll, List.flatMap_cons, Ex.fl] at *; rw [← h2]; simp⟩
          cases hE with
          | head => exact ⟨a2, h1 a (by simp), h1 b (by simp)⟩
          | tail _ hE => exact h1 E (List.mem_cons_of_mem _ (List.mem_cons_of_mem _ hE))
      rw [if_neg a2] at h
      by_cases a3 : ar t.1 = 3
      · rw [if_pos a3] at h
        match G, h, h1, h2 with
        | a :: b :: c :: G, h, h1, h2 =>
          cases h
          refine ⟨fun E hE => ?_, by simp only [flAll, List.flatMap_cons, Ex.fl] at *; rw [← h2]; simp⟩
          cases hE with
          | head => exact ⟨a3, h1 a (by simp), h1 b (by simp), h1 c (by simp)⟩
          | tail _ hE => exact h1 E (List.mem_cons_of_mem _ (List.mem_cons_of_mem _ (List.mem_cons_of_mem _ hE)))
      rw [if_neg a3] at h; cases h

def yeb (l : List Tm) : Option Ex := match ydk l with | some [E] => some E | _ => none
theorem parse_fl (E : Ex) (h : E.ok) : yeb E.fl = some E := by
  have := forest_fl E h [] [] rfl
  rw [List.append_nil] at this
  unfold yeb; rw [this]
theorem yfb {l : List Tm} {E : Ex} (h : yeb l = some E) : E.ok ∧ E.fl = l := by
  unfold yeb at h
  split at h
  · rename_i E' hf
    cases h
    obtain ⟨h1, h2⟩ := forest_inv l _ hf
    exact ⟨h1 E (by simp), by simpa [flAll] using h2⟩
  · cases h

theorem endN_forest (l : List Tm) : ∀ (w n : Nat), endN w l = some n → ∃ F : List Ex, F.length = w ∧ (∀ E ∈ F, E.ok) ∧ l.take n = flAll F := by
  induction l with
  | nil => intro w n h; cases w <;> simp [endN] at h; exact ⟨[], rfl, by simp, by simp [flAll]⟩
  | cons t l ih =>
    intro w n h
    cases w with
    | zero => rw [endN_zero] at h; cases h; exact ⟨[], rfl, by simp, by simp [flAll]⟩
    | succ w =>
      by_cases hb : ar t.1 < 0
      · rw [endN_bad w t l hb] at h; cases h
      · rw [endN_step w t l hb, Option.map_eq_some_iff] at h
        obtain ⟨m, hm, rfl⟩ := h
        obtain ⟨F, h1, h2, h3⟩ := ih _ _ hm
        rw [List.take_succ_cons, h3]
        have hk := ar_bd t.1
        have cases4 : ar t.1 = 0 ∨ ar t.1 = 1 ∨ ar t.1 = 2 ∨ ar t.1 = 3 := by omega
        rcases cases4 with hk | hk | hk | hk <;> rw [hk] at h1
        · exact ⟨.lf t :: F, by simp at *; omega, fun E hE => by
            cases hE with
            | head => exact hk
            | tail _ hE => exact h2 E hE, by simp [flAll, Ex.fl]⟩
        · match F, h1, h2 with
          | a :: F, h1, h2 => exact ⟨.un t a :: F, by simp at *; omega, fun E hE => by
              cases hE with
              | head => exact ⟨hk, h2 a (by simp)⟩
              | tail _ hE => exact h2 E (List.mem_cons_of_mem _ hE), by simp [flAll, Ex.fl]⟩
          | [], h1, _ => simp at h1
        · match F, h1, h2 with
          | a :: b :: F, h1, h2 => exact ⟨.bi t a b :: F, by simp at *; omega, fun E hE => by
              cases hE with
              | head => exact ⟨hk, h2 a (by simp), h2 b (by simp)⟩
              | tail _ hE => exact h2 E (List.mem_cons_of_mem _ (List.mem_cons_of_mem _ hE)), by simp [flAll, Ex.fl]⟩
          | [a], h1, _ => simp at h1
          | [], h1, _ => simp at h1
        · match F, h1, h2 with
          | a :: b :: c :: F, h1, h2 => exact ⟨.tr t a b c :: F, by simp at *; omega, fun E hE => by
              cases hE with
              | head => exact ⟨hk, h2 a (by simp), h2 b (by simp), h2 c (by simp)⟩
              | tail _ hE => exact h2 E (List.mem_cons_of_mem _ (List.mem_cons_of_mem _ (List.mem_cons_of_mem _ hE))), by simp [flAll, Ex.fl]⟩
          | [a, b], h1, _ => simp at h1
          | [a], h1, _ => simp at h1
          | [], h1, _ => simp at h1

theorem parse_iff (l : List Tm) : (∃ E, yeb l = some E) ↔ endN 1 l = some l.length := by
  constructor
  · rintro ⟨E, h⟩
    obtain ⟨h1, h2⟩ := yfb h
    have := endN_fl E h1 0 []
    rw [List.append_nil, h2, endN_zero] at this
    simpa using this
  · intro h
    obtain ⟨F, h1, h2, h3⟩ := endN_forest l 1 l.length h
    match F, h1, h2, h3 with
    | [E], _, h2, h3 =>
      refine ⟨E, ?_⟩
      rw [List.take_length] at h3
      rw [h3, flAll, List.flatMap_cons, List.flatMap_nil, List.append_nil]
      exact parse_fl E (h2 E (by simp))

def argB (vars : Int) (t : Tm) : Bool :=
  if t.1 = 1 then decide (0 ≤ t.2) && decide (t.2 ≤ 1073741824) else if t.1 = 5 ∨ t.1 = 12 then decide (0 ≤ t.2) && decide (t.2 < vars) else decide (t.2 = 0)
def ydc (l : List Tm) (vars : Int) : Bool :=
  match yeb l with
  | none => false
  | some E => decide (l.length ≤ 200) && (l.all (argB vars) && (decide (E.dp ≤ 24) && decide (E.ns ≤ 2)))
end Go.Proofs.YtmlkdoimkdbdpaaGreatDoor
namespace Go.Proofs.YtmlkdoimkdbdpaaGreatDoor
open Go.RowKit

def maxl : List Nat → Nat
  | [] => 0
  | a :: l => max a (maxl l)
def val (f : Int → Nat → Nat) : Ex → Nat
  | .lf t => f t.1 0
  | .un t a => f t.1 (val f a)
  | .bi t a b => f t.1 (max (val f a) (val f b))
  | .tr t a b c => f t.1 (max (val f a) (max (val f b) (val f c)))
def lev (f : Int → Nat → Nat) : List Tm → List Nat
  | [] => []
  | t :: l => f t.1 (maxl ((lev f l).take (ar t.1).toNat)) :: (lev f l).drop (ar t.1).toNat
theorem lev_forest (f : Int → Nat → Nat) (l : List Tm) : ∀ F, ydk l = some F → lev f l = F.map (val f) := by
  induction l with
  | nil => intro F h; simp [ydk] at h; subst h; rfl
  | cons t l ih =>
    intro F h
    simp only [ydk] at h
    cases hl : ydk l with
    | none => rw [hl] at h; cases h
    | some G =>
      have hG := ih G hl
      rw [hl] at h
      simp only at h
      simp only [lev, hG]
      by_cases a0 : ar t.1 = 0
      · rw [if_pos a0] at h; cases h
        rw [a0]; simp [maxl, val]
      rw [if_neg a0] at h
      by_cases a1 : ar t.1 = 1
      · rw [if_pos a1] at h
        match G, h with
        | a :: G, h => cases h; rw [a1]; simp [maxl, val]
      rw [if_neg a1] at h
      by_cases a2 : ar t.1 = 2
      · rw [if_pos a2] at h
        match G, h with
        | a :: b :: G, h => cases h; rw [a2]; simp [maxl, val]
      rw [if_neg a2] at h
      by_cases a3 : ar t.1 = 3
      · rw [if_pos a3] at h
        match G, h with
        | a :: b :: c :: G, h => cases h; rw [a3]; simp [maxl, val]
      rw [if_neg a3] at h; cases h
theorem forest_enough (l : List Tm) (t : Tm) (F : List Ex) (h : ydk (t :: l) = some F) : ∃ G, ydk l = some G ∧ 0 ≤ ar t.1 ∧ (ar t.1).toNat ≤ G.length ∧ F.length = G.length - (ar t.1).toNat + 1 := by
  simp only [ydk] at h
  cases hl : ydk l with
  | none => rw [hl] at h; cases h
  | some G =>
    rw [hl] at h
    simp only at h
    by_cases a0 : ar t.1 = 0
    · rw [if_pos a0] at h; cases h; exact ⟨G, rfl, by omega, by rw [a0]; simp, by rw [a0]; simp⟩
    rw [if_neg a0] at h
    by_cases a1 : ar t.1 = 1
    · rw [if_pos a1] at h
      match G, h with
      | a :: G, h => cases h; exact ⟨_, rfl, by omega, by rw [a1]; simp, by rw [a1]; simp⟩
    rw [if_neg a1] at h
    by_cases a2 : ar t.1 = 2
    · rw [if_pos a2] at h
      match G, h with
      | a :: b :: G, h => cases h; exact ⟨_, rfl, by omega, by rw [a2]; simp, by rw [a2]; simp⟩
    rw [if_neg a2] at h
    by_cases a3 : ar t.1 = 3
    · rw [if_pos a3] at h
      match G, h with
      | a :: b :: c :: G, h => cases h; exact ⟨_, rfl, by omega, by rw [a3]; simp, by rw [a3]; simp⟩
    rw [if_neg a3] at h; cases h
theorem forest_suffix (l : List Tm) : ∀ (k : Nat) (F : List Ex), ydk l = some F → ∃ G, ydk (l.drop k) = some G := by
  induction l with
  | nil => intro k F h; simp [ydk]
  | cons t l ih =>
    intro k F h
    cases k with
    | zero => exact ⟨F, h⟩
    | succ k =>
      obtain ⟨G, hG, _⟩ := forest_enough l t F h
      exact ih k G hG

def yev : Int → Nat → Nat := fun _ g => g + 1
def nestF : Int → Nat → Nat := fun op g => if aggB op then g + 1 else g
theorem val_depth (E : Ex) : val yev E = E.dp := by
  induction E with
  | lf t => rfl
  | un t a iha => simp only [val, Ex.dp, iha, yev]
  | bi t a b iha ihb => simp only [val, Ex.dp, iha, ihb, yev]
  | tr t a b c iha ihb ihc => simp only [val, Ex.dp, iha, ihb, ihc, yev]
theorem agg_ar {op : Int} (h : aggB op = true) : ar op = 1 := by
  simp [aggB] at h
  unfold ar; rw [if_neg (by omega), if_neg (by omega), if_pos (by omega)]
theorem agg_no {op : Int} (h : ar op ≠ 1) : aggB op = false := by
  cases hb : aggB op
  · rfl
  · exact absurd (agg_ar hb) h
theorem val_nest (E : Ex) : E.ok → val nestF E = E.ns := by
  induction E with
  | lf t => intro h; have h' : ar t.1 = 0 := h; simp only [val, Ex.ns, nestF, agg_no (op := t.1) (by omega)]; rfl
  | un t a iha => intro ⟨h, ha⟩; simp only [val, Ex.ns, iha ha, nestF]
  | bi t a b iha ihb => intro ⟨h, ha, hb⟩; simp only [val, Ex.ns, iha ha, ihb hb, nestF, agg_no (op := t.1) (by omega)]; rfl
  | tr t a b c iha ihb ihc => intro ⟨h, ha, hb, hc⟩; simp only [val, Ex.ns, iha ha, ihb hb, ihc hc, nestF, agg_no (op := t.1) (by omega)]; rfl

abbrev Open := List (Nat × Bool)
def yeu (k : Nat) (b : Bool) : Open → Open
  | [] => if k = 0 then [] else [(k, b)]
  | (x, c) :: S => if k = 0 then yeu (x - 1) c S else (k, b) :: (x, c) :: S
def finS : Open → Open
  | [] => []
  | (x, c) :: S => yeu (x - 1) c S
def cnt (S : Open) : Nat := (S.filter (·.2)).length
structure Lev where
  S : Open
  d : Nat
  n : Nat
def levStep (s : Lev) (t : Tm) : Lev :=
  ⟨yeu (ar t.1).toNat (aggB t.1) s.S, max s.d (s.S.length + 1), max s.n (cnt (((ar t.1).toNat, aggB t.1) :: s.S))⟩
def levR (s : Lev) (l : List Tm) : Lev := l.foldl levStep s
theorem levR_append (s : Lev) (l m : List Tm) : levR s (l ++ m) = levR (levR s l) m := by unfold levR; rw [List.foldl_append]
theorem levR_cons (s : Lev) (t : Tm) (l : List Tm) : levR s (t :: l) = levR (levStep s t) l := rfl
theorem closeK_pos (k : Nat) (b : Bool) (S : Open) (h : k ≠ 0) : yeu k b S = (k, b) :: S := by
  cases S with
  | nil => simp [yeu, h]
  | cons x S => obtain ⟨x, c⟩ := x; simp [yeu, h]
theorem closeK_zero (b : Bool) (S : Open) : yeu 0 b S = finS S := by
  cases S with
  | nil => simp [yeu, finS]
  | cons x S => obtain ⟨x, c⟩ := x; simp [yeu, finS]
theorem finS_succ (k : Nat) (b : Bool) (S : Open) : finS ((k + 2, b) :: S) = (k + 1, b) :: S := by
  simp only [finS]; rw [closeK_pos _ _ _ (by omega)]; rfl
theorem finS_two (b : Bool) (S : Open) : finS ((2, b) :: S) = (1, b) :: S := finS_succ 0 b S
theorem finS_three (b : Bool) (S : Open) : finS ((3, b) :: S) = (2, b) :: S := finS_succ 1 b S
theorem finS_one (b : Bool) (S : Open) : finS ((1, b) :: S) = finS S := by simp only [finS]; exact closeK_zero b S
theorem cnt_cons (k : Nat) (b : Bool) (S : Open) : cnt ((k, b) :: S) = cnt S + (if b then 1 else 0) := by
  unfold cnt; cases b <;> simp

theorem levR_fl (E : Ex) : E.ok → ∀ s : Lev, levR s E.fl = ⟨finS s.S, max s.d (s.S.length + E.dp), max s.n (cnt s.S + E.ns)⟩ := by
  induction E with
  | lf t =>
    intro h s
    have h' : ar t.1 = 0 := h
    show levStep s t = _
    unfold levStep
    rw [h', agg_no (op := t.1) (by omega)]
    simp only [Int.toNat_zero, closeK_zero, cnt_cons, Ex.dp, Ex.ns]; rfl
  | un t a iha =>
    intro ⟨h, ha⟩ s
    simp only [Ex.fl, levR_cons]
    rw [iha ha]
    unfold levStep
    rw [h]
    simp only [Int.toNat_one, closeK_pos 1 _ _ (by omega), finS_one, List.length_cons, cnt_cons, Ex.dp, Ex.ns]
    congr 1
    · omega
    · split <;> omega
  | bi t a b iha ihb =>
    intro ⟨h, ha, hb⟩ s
    simp only [Ex.fl, levR_cons, levR_append]
    rw [iha ha, ihb hb]
    unfold levStep
    rw [h, agg_no (op := t.1) (by omega)]
    simp only [show (2 : Int).toNat = 2 from rfl, closeK_pos 2 _ _ (by omega), finS_two, finS_one, List.length_cons, cnt_cons, Ex.dp, Ex.ns]
    simp only [Lev.mk.injEq, Bool.false_eq_true, if_false, true_and]
    omega
  | tr t a b c iha ihb ihc =>
    intro ⟨h, ha, hb, hc⟩ s
    simp only [Ex.fl, levR_cons, levR_append]
    rw [iha ha, ihb hb, ihc hc]
    unfold levStep
    rw [h, agg_no (op := t.1) (by omega)]
    simp only [show (3 : Int).toNat = 3 from rfl, closeK_pos 3 _ _ (by omega), finS_three, finS_two, finS_one, List.length_cons, cnt_cons, Ex.dp, Ex.ns]
    simp only [Lev.mk.injEq, Bool.false_eq_true, if_false, true_and]
    omega
end Go.Proofs.YtmlkdoimkdbdpaaGreatDoor
namespace Go.Proofs.YtmlkdoimkdbdpaaGreatDoor
open Go.RowKit

def nearB (op : Int) : Bool := decide (11 ≤ op) && decide (op ≤ 17)
def leafTy (kinds : List Int) (t : Tm) : Int :=
  if t.1 = 2 ∨ t.1 = 3 ∨ t.1 = 10 ∨ t.1 = 15 then 2 else if t.1 = 4 ∨ t.1 = 11 ∨ t.1 = 17 then 3 else if t.1 = 5 ∨ t.1 = 12 then kinds.getD t.2.toNat 0 else 1
def ty1 (op a : Int) : Int :=
  if op = 19 ∨ op = 20 ∨ op = 21 then (if a = 2 then 2 else 0) else if op = 22 then (if a = 2 then 1 else 0) else if op = 23 then (if a = 2 then 3 else 0) else (if a = 1 then 1 else 0)
def ty2 (op a b : Int) : Int :=
  if op = 35 ∨ op = 36 then (if a = b ∧ a ≠ 0 then 2 else 0) else if op = 41 ∨ op = 42 then (if a = 2 ∧ b = 2 then 2 else 0) else if a = 1 ∧ b = 1 then (if 37 ≤ op ∧ op ≤ 40 then 2 else 1) else 0
def ty3 (a b c : Int) : Int := if a = 2 ∧ b = c then b else 0
def ty (kinds : List Int) : Bool → Ex → Int
  | bound, .lf t => if nearB t.1 && !bound then 0 else leafTy kinds t
  | bound, .un t a => ty1 t.1 (ty kinds (bound || aggB t.1) a)
  | bound, .bi t a b => ty2 t.1 (ty kinds bound a) (ty kinds bound b)
  | bound, .tr _ a b c => ty3 (ty kinds bound a) (ty kinds bound b) (ty kinds bound c)
def kindsB (kinds : List Int) : Bool := kinds.all fun k => decide (k = 1) || (decide (k = 2) || decide (k = 3))
def ofF (l : List Tm) (kinds : List Int) (bound : Bool) : Int × Int :=
  if 6 < kinds.length then (0, 7) else if kindsB kinds = false then (0, 7) else if ydc l kinds.length = false then (0, 7) else
  match yeb l with
  | none => (0, 7)
  | some E => if ty kinds bound E = 0 then (0, 6) else (ty kinds bound E, 0)
theorem ofF_many (l : List Tm) (kinds : List Int) (bound : Bool) (h : 6 < kinds.length) : ofF l kinds bound = (0, 7) := by unfold ofF; rw [if_pos h]
theorem ofF_kinds (l : List Tm) (kinds : List Int) (bound : Bool) (h : kindsB kinds = false) : ofF l kinds bound = (0, 7) := by unfold ofF; rw [if_pos h]; split <;> rfl
theorem ofF_invalid (l : List Tm) (kinds : List Int) (bound : Bool) (h : ydc l kinds.length = false) : ofF l kinds bound = (0, 7) := by unfold ofF; rw [if_pos h]; split <;> (try split) <;> rfl
theorem ofF_ok (l : List Tm) (kinds : List Int) (bound : Bool) (E : Ex) (h6 : ¬ 6 < kinds.length) (hk : kindsB kinds = true) (hv : ydc l kinds.length = true) (hp : yeb l = some E) :
    ofF l kinds bound = if ty kinds bound E = 0 then (0, 6) else (ty kinds bound E, 0) := by
  unfold ofF; rw [if_neg h6, if_neg (by simp [hk]), if_neg (by simp [hv]), hp]
theorem valid_parse {l : List Tm} {vars : Int} (h : ydc l vars = true) : ∃ E, yeb l = some E ∧ E.ok ∧ E.fl = l ∧ l.length ≤ 200 ∧ l.all (argB vars) = true ∧ E.dp ≤ 24 ∧ E.ns ≤ 2 := by
  unfold ydc at h
  cases hp : yeb l with
  | none => rw [hp] at h; cases h
  | some E =>
    rw [hp] at h
    simp only [Bool.and_eq_true, decide_eq_true_eq] at h
    obtain ⟨h1, h2⟩ := yfb hp
    exact ⟨E, rfl, h1, h2, h.1, h.2.1, h.2.2.1, h.2.2.2⟩

end Go.Proofs.YtmlkdoimkdbdpaaGreatDoor
namespace Go.Proofs.YtmlkdoimkdbdpaaGreatDoor
open Go.RowKit

set_option maxHeartbeats 400000 in
theorem yfh (op : Int) (w : World) : Calls Tryz.prog 141 #[.int .i64 op] w fun e w' => e = .returned (.int .i64 (ar op)) ∧ w = w' := by
  go_enter Tryz.func141, Tryz.ntmps141
  go_wp2
  all_goals go_ret
  all_goals exact ⟨ybh (by unfold ar; (repeat' split) <;> omega), rfl⟩
set_option maxHeartbeats 400000 in
theorem aggregate_any (op : Int) (w : World) : Calls Tryz.prog 145 #[.int .i64 op] w fun e w' => e = .returned (.bool (aggB op)) ∧ w = w' := by
  go_enter Tryz.func145, Tryz.ntmps145
  go_wp2
  all_goals go_ret
  all_goals exact ⟨yal (by rw [Bool.eq_iff_iff]; simp [aggB]; omega), rfl⟩
set_option maxHeartbeats 400000 in
theorem near_any (op : Int) (w : World) : Calls Tryz.prog 146 #[.int .i64 op] w fun e w' => e = .returned (.bool (nearB op)) ∧ w = w' := by
  go_enter Tryz.func146, Tryz.ntmps146
  go_wp2
  all_goals go_ret
  all_goals exact ⟨yal (by rw [Bool.eq_iff_iff]; simp [nearB]; omega), rfl⟩
set_option maxHeartbeats 400000 in
theorem ydt (op : Int) (w : World) : Calls Tryz.prog 132 #[.int .i64 op] w fun e w' => e = .returned (.int .i64 (ar op)) ∧ w = w' := by
  go_enter Tryz.func132, Tryz.ntmps132
  go_wp2
  all_goals go_ret
  all_goals refine ⟨ybh ?_, rfl⟩
  all_goals try simp only [beq_iff_eq, beq_eq_false_iff_ne, ne_eq] at *
  all_goals (unfold ar; (repeat' split) <;> omega)
set_option maxHeartbeats 400000 in
theorem raggregate_any (op : Int) (w : World) : Calls Tryz.prog 135 #[.int .i64 op] w fun e w' => e = .returned (.bool (aggB op)) ∧ w = w' := by
  go_enter Tryz.func135, Tryz.ntmps135
  go_wp2
  all_goals go_ret
  all_goals exact ⟨yal (by rw [Bool.eq_iff_iff]; simp [aggB]; omega), rfl⟩

def ycu (w : World) (v : Value) (l : List Tm) : Prop := Row w v 2 l.length (l.flatMap fun t => [.int .i64 t.1, .int .i64 t.2])
theorem ycu.below {w w' : World} {v : Value} {l : List Tm} (h : ycu w v l) (hb : Below w.heap.size w w') : ycu w' v l := Row.below h hb
theorem ycu.open {w : World} {v : Value} {l : List Tm} (h : ycu w v l) : ∃ a cap, v = .slice a l.length cap ∧ l.length ≤ cap ∧ cap ≤ 9223372036854775807 ∧
    (0 < l.length → ∃ g o, a = some ⟨g, o, none⟩ ∧ g < w.heap.size ∧ ∀ i t, l[i]? = some t → w.cell? ⟨g, o + i * 2, none⟩ = some (.int .i64 t.1) ∧ w.cell? ⟨g, o + i * 2 + 1, none⟩ = some (.int .i64 t.2)) := by
  obtain ⟨a, cap, hv, h1, h2, h3, h4⟩ := Row.open h
  refine ⟨a, cap, hv, h1, h2, fun hn => ?_⟩
  obtain ⟨g, o, ha, hg, hc⟩ := h4 hn
  exact ⟨g, o, ha, hg, fun i t ht => ⟨hc _ _ (flat_get _ 2 (fun _ => rfl) l i 0 t _ ht rfl), hc _ _ (flat_get _ 2 (fun _ => rfl) l i 1 t _ ht rfl)⟩⟩

def endR (w k : Nat) (l : List Tm) : Int := match endN w (l.drop k) with | none => -1 | some n => (k : Int) + n
theorem endR_none (m k : Nat) (l : List Tm) (hm : 1 ≤ m) (h : l.length ≤ k) : endR m k l = -1 := by
  obtain ⟨m, rfl⟩ : ∃ q, m = q + 1 := ⟨m - 1, by omega⟩
  unfold endR; rw [List.drop_eq_nil_of_le h, endN_nil]
theorem endR_bad (m k : Nat) (l : List Tm) (hm : 1 ≤ m) (h : k < l.length) (hn : ar l[k].1 < 0) : endR m k l = -1 := by
  obtain ⟨m, rfl⟩ : ∃ q, m = q + 1 := ⟨m - 1, by omega⟩
  unfold endR; rw [List.drop_eq_getElem_cons h, endN_bad _ _ _ hn]
theorem endR_step (m k : Nat) (l : List Tm) (hm : 1 ≤ m) (h : k < l.length) (hn : ¬ ar l[k].1 < 0) : endR m k l = endR (m + (ar l[k].1).toNat - 1) (k + 1) l := by
  obtain ⟨m, rfl⟩ : ∃ q, m = q + 1 := ⟨m - 1, by omega⟩
  unfold endR; rw [List.drop_eq_getElem_cons h, endN_step _ _ _ hn, show m + 1 + (ar l[k].1).toNat - 1 = m + (ar l[k].1).toNat by omega]
  cases endN (m + (ar l[k].1).toNat) (l.drop (k + 1)) with
  | none => rfl
  | some n => simp; omega
theorem endR_done (m k : Nat) (l : List Tm) (hm : 1 ≤ m) (h : k < l.length) (hn : ¬ ar l[k].1 < 0) (hz : (m : Int) + (ar l[k].1 - 1) = 0) : endR m k l = k + 1 := by
  rw [endR_step m k l hm h hn, show m + (ar l[k].1).toNat - 1 = 0 by omega]
  unfold endR; rw [endN_zero]; simp

set_option maxHeartbeats 1000000 in
theorem argument_any (t : Tm) (vars : Int) (w : World) : Calls Tryz.prog 116 #[.agg #[.int .i64 t.1, .int .i64 t.2], .int .i64 vars] w fun e w' => e = .returned (.bool (argB vars t)) ∧ Below w.heap.size w w' := by
  obtain ⟨op, x⟩ := t
  have hcases : (op == 1) = true ∨ (op == 1) = false ∧ ((op == 5) = true ∨ (op == 5) = false ∧ ((op == 12) = true ∨ (op == 12) = false)) := by
    cases (op == 1) <;> cases (op == 5) <;> cases (op == 12) <;> simp
  rcases hcases with q0 | ⟨q0, q1 | ⟨q1, q2 | q2⟩⟩
  all_goals
    go_enter Tryz.func116, Tryz.ntmps116
    go_wp2
    all_goals go_ret
    all_goals refine ⟨yal ?_, (Below.refl _ _).alloc (Nat.le_refl _) _⟩
    all_goals simp only [beq_iff_eq, beq_eq_false_iff_ne, ne_eq] at *
    all_goals rw [Bool.eq_iff_iff]
    all_goals simp [argB, *]
    all_goals try omega

set_option maxHeartbeats 1000000 in
theorem rargument_any (t : Tm) (vars : Int) (w : World) : Calls Tryz.prog 131 #[.agg #[.int .i64 t.1, .int .i64 t.2], .int .i64 vars] w fun e w' => e = .returned (.bool (argB vars t)) ∧ Below w.heap.size w w' := by
  obtain ⟨op, x⟩ := t
  have hcases : (op == 1) = true ∨ (op == 1) = false ∧ ((op == 5) = true ∨ (op == 5) = false ∧ ((op == 12) = true ∨ (op == 12) = false)) := by
    cases (op == 1) <;> cases (op == 5) <;> cases (op == 12) <;> simp
  rcases hcases with q0 | ⟨q0, q1 | ⟨q1, q2 | q2⟩⟩
  all_goals
    go_enter Tryz.func131, Tryz.ntmps131
    go_wp2
    all_goals go_ret
    all_goals refine ⟨yal ?_, (Below.refl _ _).alloc (Nat.le_refl _) _⟩
    all_goals simp only [beq_iff_eq, beq_eq_false_iff_ne, ne_eq] at *
    all_goals rw [Bool.eq_iff_iff]
    all_goals simp [argB, *]
    all_goals try omega

set_option maxHeartbeats 1000000 in
theorem end_any_in (v : Value) (l : List Tm) (at_ : Nat) (w : World) (hl : l.length ≤ 1000) (hv : Hid (ycu w v l)) (ha : at_ < l.length) :
    Calls Tryz.prog 115 #[v, .int .i64 at_] w fun e w' => e = .returned (.int .i64 (endR 1 at_ l)) ∧ w = w' := by
  obtain ⟨a, cap, rfl, h1, h2, h3⟩ := hv.out.open
  obtain ⟨g, o, rfl, hg, hc⟩ := h3 (by omega)
  have HC := Lib.hid hc
  have b1 : decide ((at_ : Int) < 0) = false := by simp
  have b2 : decide (l.length ≤ at_) = false := by simp; omega
  clear hc h3
  go_enter Tryz.func115, Tryz.ntmps115
  go_wp2
  go_loop [1, 5, 6] (fun i x _ => ∃ k m : Nat, k ≤ l.length ∧ 1 ≤ m ∧ m ≤ 2 * k + 1 ∧ i = .int .i64 k ∧ x = .int .i64 m ∧ Hid (endR 1 at_ l = endR m k l)) (fun i _ _ => l.length - (intOf i).toNat)
  case atStart => exact ⟨at_, 1, by omega, by omega, by omega, rfl, rfl, rfl⟩
  case round =>
    obtain ⟨k, m, hk, hm1, hm2, rfl, rfl, he⟩ := hrel
    by_cases hlt : k < l.length
    · obtain ⟨c0, c1⟩ := HC.out k _ (List.getElem?_eq_getElem hlt)
      have hb := ar_bd l[k].1
      have hb1 := hb.1
      have hb2 := hb.2
      clear hb
      have HD := Lib.hid (List.drop_eq_getElem_cons hlt)
      by_cases hneg : ar l[k].1 < 0
      · go_wp2_with (go_at_call 141; refine (yfh _ _).mono ?_; rintro e w' ⟨rfl, rfl⟩)
        go_ret
        exact ⟨ybh (by rw [he.out, endR_bad m k l hm1 hlt hneg]), rfl⟩
      · by_cases hz : (m : Int) + (ar l[k].1 - 1) = 0
        · have hz' : ((m : Int) + (ar l[k].1 - 1) == 0) = true := by simp; omega
          have HZ := Lib.hid hz
          clear hz
          go_wp2_with (go_at_call 141; refine (yfh _ _).mono ?_; rintro e w' ⟨rfl, rfl⟩)
          go_ret
          exact ⟨ybh (by rw [he.out, endR_done m k l hm1 hlt (by omega) HZ.out]), rfl⟩
        · have hz' : ((m : Int) + (ar l[k].1 - 1) == 0) = false := by simp; omega
          go_wp2_with (go_at_call 141; refine (yfh _ _).mono ?_; rintro e w' ⟨rfl, rfl⟩)
          exact ⟨⟨k + 1, m + (ar l[k].1).toNat - 1, by omega, by omega, by omega, by go_num, by congr 1; omega, he.out.trans (endR_step m k l hm1 hlt (by omega))⟩, by simp [intOf]; omega⟩
    · go_wp2
      go_ret
      exact ⟨ybh (by rw [he.out, endR_none m k l hm1 (by omega)]), rfl⟩

set_option maxHeartbeats 1000000 in
theorem rend_any_in (v : Value) (l : List Tm) (at_ : Nat) (w : World) (hl : l.length ≤ 1000) (hv : Hid (ycu w v l)) (ha : at_ < l.length) :
    Calls Tryz.prog 152 #[v, .int .i64 at_] w fun e w' => e = .returned (.int .i64 (endR 1 at_ l)) ∧ w = w' := by
  obtain ⟨a, cap, rfl, h1, h2, h3⟩ := hv.out.open
  obtain ⟨g, o, rfl, hg, hc⟩ := h3 (by omega)
  have HC := Lib.hid hc
  have b1 : decide ((at_ : Int) < 0) = false := by simp
  have b2 : decide (l.length ≤ at_) = false := by simp; omega
  clear hc h3
  go_enter Tryz.func152, Tryz.ntmps152
  go_wp2
  go_loop [5, 6, 7] (fun x i _ => ∃ k m : Nat, k ≤ l.length ∧ 1 ≤ m ∧ m ≤ 2 * k + 1 ∧ i = .int .i64 k ∧ x = .int .i64 m ∧ Hid (endR 1 at_ l = endR m k l)) (fun _ i _ => l.length - (intOf i).toNat)
  case atStart => exact ⟨at_, 1, by omega, by omega, by omega, rfl, rfl, rfl⟩
  case round =>
    obtain ⟨k, m, hk, hm1, hm2, rfl, rfl, he⟩ := hrel
    by_cases hlt : k < l.length
    · obtain ⟨c0, c1⟩ := HC.out k _ (List.getElem?_eq_getElem hlt)
      have hb := ar_bd l[k].1
      have hb1 := hb.1
      have hb2 := hb.2
      clear hb
      have HD := Lib.hid (List.drop_eq_getElem_cons hlt)
      by_cases hneg : ar l[k].1 < 0
      · go_wp2_with (go_at_call 132; refine (ydt _ _).mono ?_; rintro e w' ⟨rfl, rfl⟩)
        go_ret
        exact ⟨ybh (by rw [he.out, endR_bad m k l hm1 hlt hneg]), rfl⟩
      · by_cases hz : (m : Int) + (ar l[k].1 - 1) = 0
        · have hz' : ((m : Int) + (ar l[k].1 - 1) == 0) = true := by simp; omega
          have HZ := Lib.hid hz
          clear hz
          go_wp2_with (go_at_call 132; refine (ydt _ _).mono ?_; rintro e w' ⟨rfl, rfl⟩)
          go_ret
          exact ⟨ybh (by rw [he.out, endR_done m k l hm1 hlt (by omega) HZ.out]), rfl⟩
        · have hz' : ((m : Int) + (ar l[k].1 - 1) == 0) = false := by simp; omega
          go_wp2_with (go_at_call 132; refine (ydt _ _).mono ?_; rintro e w' ⟨rfl, rfl⟩)
          exact ⟨⟨k + 1, m + (ar l[k].1).toNat - 1, by omega, by omega, by omega, by go_num, by congr 1; omega, he.out.trans (endR_step m k l hm1 hlt (by omega))⟩, by simp [intOf]; omega⟩
    · go_wp2
      go_ret
      exact ⟨ybh (by rw [he.out, endR_none m k l hm1 (by omega)]), rfl⟩
end Go.Proofs.YtmlkdoimkdbdpaaGreatDoor
namespace Go.Proofs.YtmlkdoimkdbdpaaGreatDoor
open Go.ChangeShapes Go.WideShapes Go.RowKit

def Rd {H : Type} (enc : TypeId × Value → H) (P : Program) (w : World) (t : TypeId) (cs : List Value) : Prop := ∃ fuel x, DataW.trod enc P w 0 (fun _ => true) true fuel t cs = some x

section
variable {H : Type} {enc : TypeId × Value → H} {P : Program} {w : World} {t : TypeId} {cs : List Value}

theorem rd_int {k : IntKind} (ht : P.underlying t = some (.int k)) (h : Rd enc P w t cs) : ∃ n, cs = [.int k n] ∧ (Lit.int k n).wf = true := by
  obtain ⟨fuel, x, h⟩ := h
  obtain ⟨n, h1, _, h2⟩ := DataW.trod_int ht h
  exact ⟨n, h1, h2⟩
theorem wf64 {n : Int} (h : (Lit.int .i64 n).wf = true) : -9223372036854775808 ≤ n ∧ n ≤ 9223372036854775807 := by
  simp only [Lit.wf, Bool.and_eq_true, decide_eq_true_eq] at h
  have e1 : IntKind.i64.min = -9223372036854775808 := by decide
  have e2 : IntKind.i64.max = 9223372036854775807 := by decide
  omega
theorem yfn (ht : P.underlying t = some (.int .i64)) (h : Rd enc P w t cs) : ∃ n, cs = [.int .i64 n] ∧ -9223372036854775808 ≤ n ∧ n ≤ 9223372036854775807 := by
  obtain ⟨n, h1, h2⟩ := rd_int ht h
  exact ⟨n, h1, wf64 h2⟩
theorem rd_string (ht : P.underlying t = some .string) (h : Rd enc P w t cs) : ∃ s : ByteArray, cs = [.string s] ∧ s.size ≤ maxLen := by
  obtain ⟨fuel, x, h⟩ := h
  obtain ⟨s, h1, _, h2⟩ := DataW.trod_string ht h
  exact ⟨s, h1, h2⟩
theorem rd_struct {fs : Array Field} (ht : P.underlying t = some (.struct fs)) (h : Rd enc P w t cs) :
    cs.length = P.cellsOf t ∧ ∀ (i : Nat) (f : Field), fs[i]? = some f → Rd enc P w f.type ((cs.drop f.offset).take (P.cellsOf f.type)) := by
  obtain ⟨fuel, x, h⟩ := h
  obtain ⟨xs, n, _, _, h1, h2, h3⟩ := DataW.trod_struct ht h
  refine ⟨h1, fun i f hf => ?_⟩
  have hi : i < xs.length := by rw [h2]; exact (Array.getElem?_eq_some_iff.1 hf).1
  exact ⟨n, xs[i], by rw [h3 i f hf, List.getElem?_eq_getElem hi]⟩
theorem rd_slice {e : TypeId} (ht : P.underlying t = some (.slice e)) (h : Rd enc P w t cs) :
    cs = [.slice none 0 0] ∨ ∃ (a : Addr) (len cap : Nat), cs = [.slice (some a) len cap] ∧ len ≤ cap ∧ cap ≤ maxLen ∧
      ∀ i, i < len → ∃ cs', cs'.length = P.cellsOf e ∧ (∀ j, j < P.cellsOf e → w.cell? ((a.add (i * P.cellsOf e)).add j) = cs'[j]?) ∧ Rd enc P w e cs' := by
  obtain ⟨fuel, x, h⟩ := h
  rcases Deep.open_slice ht h with ⟨h0, _⟩ | ⟨a, len, cap, m, n, D, Pl, h1, _, h2, h3, h4, _, h5⟩
  · exact .inl h0
  · refine .inr ⟨a, len, cap, h1, h2, h3, fun i hi => ?_⟩
    have hm : m = cap := by simpa using h4
    obtain ⟨cs', h6, h7⟩ := h5 i (by omega)
    obtain ⟨_, h8, h9⟩ := World.cells?_some h6
    exact ⟨cs', h8, h9, ⟨n, _, h7⟩⟩
end

def Seq {α : Type} (R : List Value → α → Prop) (size : Nat) (w : World) (v : Value) (l : List α) : Prop :=
  ∃ xs, Row w v size l.length xs ∧ ∀ i x, l[i]? = some x → R ((xs.drop (i * size)).take size) x

theorem Seq.below {α : Type} {R R' : List Value → α → Prop} {size : Nat} {w w' : World} {v : Value} {l : List α} (h : Seq R size w v l) (hb : Below w.heap.size w w') (hR : ∀ cs x, R cs x → R' cs x) : Seq R' size w' v l := by
  obtain ⟨xs, h1, h2⟩ := h
  exact ⟨xs, h1.below hb, fun i x hx => hR _ _ (h2 i x hx)⟩
theorem Seq.imp {α : Type} {R R' : List Value → α → Prop} {size : Nat} {w : World} {v : Value} {l : List α} (h : Seq R size w v l) (hR : ∀ cs x, x ∈ l → R cs x → R' cs x) : Seq R' size w v l := by
  obtain ⟨xs, h1, h2⟩ := h
  exact ⟨xs, h1, fun i x hx => hR _ _ (List.mem_of_getElem? hx) (h2 i x hx)⟩

theorem flat_chunk (f : Nat → List Value) (size : Nat) (hf : ∀ i, (f i).length = size) (n i : Nat) (hi : i < n) : (((List.range n).flatMap f).drop (i * size)).take size = f i := by
  apply List.ext_getElem?
  intro j
  rw [List.getElem?_take]
  split
  · rename_i hj
    rw [List.getElem?_drop]
    obtain ⟨u, hu⟩ : ∃ u, (f i)[j]? = some u := ⟨_, List.getElem?_eq_getElem (by rw [hf]; exact hj)⟩
    rw [hu]
    exact flat_get f size hf (List.range n) i j i u (by rw [List.getElem?_range hi]) hu
  · rename_i hj
    rw [List.getElem?_eq_none (by rw [hf]; omega)]

theorem open_seq {H : Type} {enc : TypeId × Value → H} {P : Program} {w : World} {t e : TypeId} {cs : List Value} {α : Type} {R : List Value → α → Prop} {size : Nat} (ht : P.underlying t = some (.slice e)) (hs : P.cellsOf e = size) (h0 : 0 < size)
    (hR : ∀ cs, Rd enc P w e cs → ∃ x, R cs x) (h : Rd enc P w t cs) : ∃ v l, cs = [v] ∧ Seq R size w v l := by
  rcases rd_slice ht h with rfl | ⟨a, len, cap, rfl, h1, h2, h3⟩
  · exact ⟨_, [], rfl, [], row_nil w size, fun i x hx => by simp at hx⟩
  · rw [hs] at h3
    by_cases hl : len = 0
    · subst hl
      exact ⟨_, [], rfl, [], ⟨_, cap, rfl, by simp, h2, by simp, (fun h => by cases h), .inl rfl⟩, fun i x hx => by simp at hx⟩
    have hch : ∀ i : Nat, ∃ q : List Value, q.length = size ∧ (i < len → (∀ j, j < size → w.cell? ((a.add (i * size)).add j) = q[j]?) ∧ ∃ x, R q x) := by
      intro i
      by_cases hi : i < len
      · obtain ⟨c, c1, c2, c3⟩ := h3 i hi
        exact ⟨c, c1, fun _ => ⟨c2, hR c c3⟩⟩
      · exact ⟨List.replicate size undef, by simp, fun h => absurd h hi⟩
    obtain ⟨f, hf⟩ := Classical.axiomOfChoice hch
    obtain ⟨x0, _⟩ := ((hf 0).2 (by omega)).2
    have hx : ∀ i : Nat, ∃ x : α, i < len → R (f i) x := by
      intro i
      by_cases hi : i < len
      · obtain ⟨x, hx⟩ := ((hf i).2 hi).2
        exact ⟨x, fun _ => hx⟩
      · exact ⟨x0, fun h => absurd h hi⟩
    obtain ⟨g, hg⟩ := Classical.axiomOfChoice hx
    have hc0 : w.cell? a = (f 0)[0]? := by
      have := ((hf 0).2 (by omega)).1 0 h0
      simpa [Addr.add] using this
    obtain ⟨u0, hu0⟩ : ∃ u, (f 0)[0]? = some u := ⟨_, List.getElem?_eq_getElem (by rw [(hf 0).1]; exact h0)⟩
    rw [hu0] at hc0
    obtain ⟨b, o, sp⟩ := a
    have hsp : sp = none := by
      unfold World.cell? at hc0
      split at hc0
      · split at hc0
        · cases hc0
        · rename_i hsp; simpa using hsp
      · cases hc0
    subst hsp
    have hb : b < w.heap.size := by
      rcases Nat.lt_or_ge b w.heap.size with h | h
      · exact h
      · unfold World.cell? at hc0; simp [Array.getElem?_eq_none h] at hc0
    have hadd : ∀ n : Nat, (⟨b, o, none⟩ : Addr).add n = ⟨b, o + n, none⟩ := by intro n; unfold Addr.add; split <;> simp_all
    refine ⟨_, (List.range len).map g, rfl, (List.range len).flatMap f, ?_, ?_⟩
    · rw [List.length_map, List.length_range]
      refine ⟨_, cap, rfl, h1, h2, by rw [flat_len f size (fun i => (hf i).1), List.length_range], (fun h => by cases h), .inr ⟨b, o, rfl, hb, fun j u hu => ?_⟩⟩
      have hj : j < len * size := by
        have := (List.getElem?_eq_some_iff.1 hu).1
        rw [flat_len f size (fun i => (hf i).1), List.length_range] at this; exact this
      have hi : j / size < len := (Nat.div_lt_iff_lt_mul h0).2 hj
      have hr : j % size < size := Nat.mod_lt _ h0
      have hjd : j / size * size + j % size = j := by rw [Nat.mul_comm]; exact Nat.div_add_mod j size
      have c := ((hf (j / size)).2 hi).1 (j % size) hr
      obtain ⟨u', hu'⟩ : ∃ u, (f (j / size))[j % size]? = some u := ⟨_, List.getElem?_eq_getElem (by rw [(hf _).1]; exact hr)⟩
      have e1 := flat_get f size (fun i => (hf i).1) (List.range len) (j / size) (j % size) (j / size) u' (by rw [List.getElem?_range hi]) hu'
      rw [hjd, hu] at e1
      cases e1
      rw [hadd] at c
      have h5 : (⟨b, o + j / size * size, none⟩ : Addr).add (j % size) = ⟨b, o + j, none⟩ := by
        have : (⟨b, o + j / size * size, none⟩ : Addr).add (j % size) = ⟨b, o + j / size * size + j % size, none⟩ := by unfold Addr.add; split <;> simp_all
        rw [this, Nat.add_assoc, hjd]
      rw [h5] at c
      rw [c, hu']
    · intro i x hx
      have hi : i < len := by
        have := (List.getElem?_eq_some_iff.1 hx).1
        simpa using this
      rw [List.getElem?_map, List.getElem?_range hi] at hx
      simp at hx
      subst hx
      rw [flat_chunk f size (fun i => (hf i).1) len i hi]
      exact hg i hi

theorem seq_flat {α : Type} {R : List Value → α → Prop} {size : Nat} {w : World} {v : Value} {l : List α} (f : α → List Value) (hf : ∀ x, (f x).length = size) (h0 : 0 < size) (h : Seq R size w v l) (hR : ∀ cs x, R cs x → cs = f x) : Row w v size l.length (l.flatMap f) := by
  obtain ⟨xs, ⟨a, cap, hv, h1, h2, h3, h4, h5⟩, h6⟩ := h
  refine ⟨a, cap, hv, h1, h2, flat_len f size hf l, h4, ?_⟩
  rcases h5 with h5 | ⟨g, o, ha, hg, hc⟩
  · exact .inl h5
  · refine .inr ⟨g, o, ha, hg, fun j u hu => hc j u ?_⟩
    have hj : j < l.length * size := by
      have := (List.getElem?_eq_some_iff.1 hu).1
      rw [flat_len f size hf] at this; exact this
    have hi : j / size < l.length := (Nat.div_lt_iff_lt_mul h0).2 hj
    have hr : j % size < size := Nat.mod_lt _ h0
    have hjd : j / size * size + j % size = j := by rw [Nat.mul_comm]; exact Nat.div_add_mod j size
    have e1 := flat_get f size hf l (j / size) (j % size) l[j / size] ((f l[j / size])[j % size]'(by rw [hf]; exact hr)) (List.getElem?_eq_getElem hi) (List.getElem?_eq_getElem (by rw [hf]; exact hr))
    rw [hjd, hu] at e1
    cases e1
    have e2 := hR _ _ (h6 (j / size) _ (List.getElem?_eq_getElem hi))
    have e3 : ((xs.drop (j / size * size)).take size)[j % size]? = some ((f l[j / size])[j % size]'(by rw [hf]; exact hr)) := by rw [e2]; exact List.getElem?_eq_getElem (by rw [hf]; exact hr)
    rw [List.getElem?_take, if_pos hr, List.getElem?_drop, hjd] at e3
    exact e3

theorem rd_of {H : Type} {enc : TypeId × Value → H} {P : Program} {w : World} {t : TypeId} {v : Value} {d : DataW H} {ps : List MemPlace} (h : DataW.Trod enc P w 0 (fun _ => true) true t v d ps) : Rd enc P w t v.cells.toList := by
  obtain ⟨fuel, h⟩ := h
  exact ⟨fuel, _, h⟩

theorem open_seq_arg {H : Type} {enc : TypeId × Value → H} {P : Program} {w : World} {base : Nat} {t e : TypeId} {v : Value} {d : DataW H} {ps : List MemPlace} {α : Type} {R : List Value → α → Prop} {size : Nat} (ht : P.underlying t = some (.slice e)) (hs : P.cellsOf e = size) (h0 : 0 < size)
    (hR : ∀ cs, Rd enc P w e cs → ∃ x, R cs x) (hv : Value.okWide P w .any base t v) (h : DataW.Trod enc P w 0 (fun _ => true) true t v d ps) : ∃ l, Seq R size w v l := by
  obtain ⟨a, len, cap, rfl⟩ := okWide_slice ht hv
  obtain ⟨v', l, h1, h2⟩ := open_seq ht hs h0 hR (rd_of h)
  simp [Value.cells] at h1
  subst h1
  exact ⟨l, h2⟩

theorem flat_one (l : List Int) : l.flatMap (fun x => [Value.int .i64 x]) = l.map (.int .i64) := by
  induction l with
  | nil => rfl
  | cons a l ih => rw [List.flatMap_cons, ih]; rfl
def In64 (n : Int) : Prop := -9223372036854775808 ≤ n ∧ n ≤ 9223372036854775807
end Go.Proofs.YtmlkdoimkdbdpaaGreatDoor
set_option maxRecDepth 100000
namespace Go.Proofs.YtmlkdoimkdbdpaaGreatDoor
open Go.ChangeShapes Go.WideShapes Go.RowKit

theorem cellsInt : Tryz.prog.cellsOf 3 = 1 := by kernel_rfl
theorem cellsTerm : Tryz.prog.cellsOf 158 = 2 := by kernel_rfl
section
variable {H : Type} {enc : TypeId × Value → H} {w : World} {cs : List Value} {v : Value} {base : Nat} {d : DataW H} {ps : List MemPlace}
def TermIn (t : Tm) : Prop := In64 t.1 ∧ In64 t.2
theorem rd_term (h : Rd enc Tryz.prog w 158 cs) : ∃ t : Tm, cs = [.int .i64 t.1, .int .i64 t.2] ∧ TermIn t := by
  obtain ⟨h1, h2⟩ := rd_struct Tryz.underlying158 h
  rw [cellsTerm] at h1
  match cs, h1 with
  | [a, b], _ =>
    have g0 := h2 0 _ rfl
    have g1 := h2 1 _ rfl
    simp [cellsInt] at g0 g1
    obtain ⟨x, hx, hx'⟩ := yfn Tryz.underlying3 g0
    obtain ⟨y, hy, hy'⟩ := yfn Tryz.underlying3 g1
    simp at hx hy
    exact ⟨(x, y), by simp [hx, hy], hx', hy'⟩
theorem terms_of_seq {l : List Tm} (h : Seq (fun cs (t : Tm) => cs = [.int .i64 t.1, .int .i64 t.2] ∧ TermIn t) 2 w v l) : ycu w v l ∧ ∀ t ∈ l, TermIn t := by
  refine ⟨seq_flat (fun t : Tm => [.int .i64 t.1, .int .i64 t.2]) (fun _ => rfl) (by omega) h (fun cs x h => h.1), fun x hx => ?_⟩
  obtain ⟨xs, _, h2⟩ := h
  obtain ⟨i, hi⟩ := List.getElem?_of_mem hx
  exact (h2 i x hi).2
theorem rd_terms (h : Rd enc Tryz.prog w 75 cs) : ∃ v l, cs = [v] ∧ ycu w v l ∧ ∀ t ∈ l, TermIn t := by
  obtain ⟨v, l, h1, h2⟩ := open_seq (R := fun cs (t : Tm) => cs = [.int .i64 t.1, .int .i64 t.2] ∧ TermIn t) Tryz.underlying75 cellsTerm (Nat.succ_pos 1) (fun cs h => rd_term h) h
  exact ⟨v, l, h1, terms_of_seq h2⟩
end
end Go.Proofs.YtmlkdoimkdbdpaaGreatDoor
set_option linter.unusedVariables false
set_option maxRecDepth 100000
namespace Go.Proofs.YtmlkdoimkdbdpaaGreatDoor
open Go.ChangeShapes Go.WideShapes Go.RowKit

structure VarD where
  name : ByteArray
  kind : Int
  lo : Int
  hi : Int
  perNode : Int
  perID : Int
structure SetD where
  var : Int
  val : List Tm
structure RuleD where
  name : ByteArray
  guard : List Tm
  sets : List SetD
structure ProgD where
  name : ByteArray
  vars : List VarD
  rules : List RuleD

def varCells (x : VarD) : List Value := [.string x.name, .int .i64 x.kind, .int .i64 x.lo, .int .i64 x.hi, .int .i64 x.perNode, .int .i64 x.perID]
def SetOk (w : World) (cs : List Value) (s : SetD) : Prop := ∃ v, cs = [.int .i64 s.var, v] ∧ ycu w v s.val
def RuleOk (w : World) (cs : List Value) (r : RuleD) : Prop := ∃ gv sv, cs = [.string r.name, gv, sv] ∧ ycu w gv r.guard ∧ Seq (SetOk w) 2 w sv r.sets
def VarsOk (w : World) (v : Value) (l : List VarD) : Prop := Row w v 6 l.length (l.flatMap varCells)
def RulesOk (w : World) (v : Value) (l : List RuleD) : Prop := Seq (RuleOk w) 3 w v l
def yfe (w : World) (v : Value) (p : ProgD) : Prop := ∃ vv rv, v = .agg #[.string p.name, vv, rv] ∧ VarsOk w vv p.vars ∧ RulesOk w rv p.rules

def VarIn (x : VarD) : Prop := x.name.size ≤ 9223372036854775807 ∧ In64 x.kind ∧ In64 x.lo ∧ In64 x.hi ∧ In64 x.perNode ∧ In64 x.perID
def SetIn (s : SetD) : Prop := In64 s.var ∧ ∀ t ∈ s.val, TermIn t
def RuleIn (r : RuleD) : Prop := r.name.size ≤ 9223372036854775807 ∧ (∀ t ∈ r.guard, TermIn t) ∧ ∀ s ∈ r.sets, SetIn s
def ProgIn (p : ProgD) : Prop := p.name.size ≤ 9223372036854775807 ∧ (∀ x ∈ p.vars, VarIn x) ∧ ∀ r ∈ p.rules, RuleIn r

theorem SetOk.below {w w' : World} {cs : List Value} {s : SetD} (hb : Below w.heap.size w w') (h : SetOk w cs s) : SetOk w' cs s := by
  obtain ⟨v, h1, h2⟩ := h
  exact ⟨v, h1, h2.below hb⟩
theorem RuleOk.below {w w' : World} {cs : List Value} {r : RuleD} (hb : Below w.heap.size w w') (h : RuleOk w cs r) : RuleOk w' cs r := by
  obtain ⟨gv, sv, h1, h2, h3⟩ := h
  exact ⟨gv, sv, h1, h2.below hb, h3.below hb fun _ _ => SetOk.below hb⟩
theorem VarsOk.below {w w' : World} {v : Value} {l : List VarD} (h : VarsOk w v l) (hb : Below w.heap.size w w') : VarsOk w' v l := Row.below h hb
theorem RulesOk.below {w w' : World} {v : Value} {l : List RuleD} (h : RulesOk w v l) (hb : Below w.heap.size w w') : RulesOk w' v l := Seq.below h hb fun _ _ => RuleOk.below hb
theorem yfe.below {w w' : World} {v : Value} {p : ProgD} (h : yfe w v p) (hb : Below w.heap.size w w') : yfe w' v p := by
  obtain ⟨vv, rv, h1, h2, h3⟩ := h
  exact ⟨vv, rv, h1, h2.below hb, h3.below hb⟩

theorem Seq.open {α : Type} {R : List Value → α → Prop} {size : Nat} {w : World} {v : Value} {l : List α} (h : Seq R size w v l) : ∃ a cap, v = .slice a l.length cap ∧ l.length ≤ cap ∧ cap ≤ 9223372036854775807 ∧
    (0 < l.length → ∃ g o, a = some ⟨g, o, none⟩ ∧ g < w.heap.size ∧ ∀ i x, l[i]? = some x → ∃ cs, cs.length = size ∧ R cs x ∧ ∀ j u, cs[j]? = some u → w.cell? ⟨g, o + i * size + j, none⟩ = some u) := by
  obtain ⟨xs, h1, h2⟩ := h
  have hlen : xs.length = l.length * size := by obtain ⟨_, _, _, _, _, h, _⟩ := h1; exact h
  obtain ⟨a, cap, hv, h3, h4, _, h5⟩ := Row.open h1
  refine ⟨a, cap, hv, h3, h4, fun hn => ?_⟩
  obtain ⟨g, o, ha, hg, hc⟩ := h5 hn
  refine ⟨g, o, ha, hg, fun i x hx => ⟨_, ?_, h2 i x hx, fun j u hu => ?_⟩⟩
  · have hi := (List.getElem?_eq_some_iff.1 hx).1
    rw [List.length_take, List.length_drop, hlen]
    have : i * size + size ≤ l.length * size := by rw [← Nat.succ_mul]; exact Nat.mul_le_mul_right _ hi
    omega
  · rw [List.getElem?_take] at hu
    split at hu
    · rw [List.getElem?_drop] at hu
      have := hc _ u hu
      rw [← Nat.add_assoc] at this
      exact this
    · cases hu
theorem VarsOk.open {w : World} {v : Value} {l : List VarD} (h : VarsOk w v l) : ∃ a cap, v = .slice a l.length cap ∧ l.length ≤ cap ∧ cap ≤ 9223372036854775807 ∧
    (0 < l.length → ∃ g o, a = some ⟨g, o, none⟩ ∧ g < w.heap.size ∧ ∀ i x, l[i]? = some x → w.cell? ⟨g, o + i * 6, none⟩ = some (.string x.name) ∧ w.cell? ⟨g, o + i * 6 + 1, none⟩ = some (.int .i64 x.kind) ∧ w.cell? ⟨g, o + i * 6 + 2, none⟩ = some (.int .i64 x.lo) ∧
      w.cell? ⟨g, o + i * 6 + 3, none⟩ = some (.int .i64 x.hi) ∧ w.cell? ⟨g, o + i * 6 + 4, none⟩ = some (.int .i64 x.perNode) ∧ w.cell? ⟨g, o + i * 6 + 5, none⟩ = some (.int .i64 x.perID)) := by
  obtain ⟨a, cap, hv, h3, h4, _, h5⟩ := Row.open h
  refine ⟨a, cap, hv, h3, h4, fun hn => ?_⟩
  obtain ⟨g, o, ha, hg, hc⟩ := h5 hn
  refine ⟨g, o, ha, hg, fun i x hx => ?_⟩
  have h0 := fun j u hu => flat_get varCells 6 (fun _ => rfl) l i j x u hx hu
  exact ⟨hc _ _ (h0 0 _ rfl), hc _ _ (h0 1 _ rfl), hc _ _ (h0 2 _ rfl), hc _ _ (h0 3 _ rfl), hc _ _ (h0 4 _ rfl), hc _ _ (h0 5 _ rfl)⟩
theorem RulesOk.open {w : World} {v : Value} {l : List RuleD} (h : RulesOk w v l) : ∃ a cap, v = .slice a l.length cap ∧ l.length ≤ cap ∧ cap ≤ 9223372036854775807 ∧
    (0 < l.length → ∃ g o, a = some ⟨g, o, none⟩ ∧ g < w.heap.size ∧ ∀ i r, l[i]? = some r → ∃ gv sv, ycu w gv r.guard ∧ Seq (SetOk w) 2 w sv r.sets ∧ w.cell? ⟨g, o + i * 3, none⟩ = some (.string r.name) ∧ w.cell? ⟨g, o + i * 3 + 1, none⟩ = some gv ∧ w.cell? ⟨g, o + i * 3 + 2, none⟩ = some sv) := by
  obtain ⟨a, cap, hv, h3, h4, h5⟩ := Seq.open h
  refine ⟨a, cap, hv, h3, h4, fun hn => ?_⟩
  obtain ⟨g, o, ha, hg, hc⟩ := h5 hn
  refine ⟨g, o, ha, hg, fun i r hr => ?_⟩
  obtain ⟨cs, _, ⟨gv, sv, rfl, q1, q2⟩, q3⟩ := hc i r hr
  exact ⟨gv, sv, q1, q2, q3 0 _ rfl, q3 1 _ rfl, q3 2 _ rfl⟩
theorem yem {w : World} {v : Value} {l : List SetD} (h : Seq (SetOk w) 2 w v l) : ∃ a cap, v = .slice a l.length cap ∧ l.length ≤ cap ∧ cap ≤ 9223372036854775807 ∧
    (0 < l.length → ∃ g o, a = some ⟨g, o, none⟩ ∧ g < w.heap.size ∧ ∀ i s, l[i]? = some s → ∃ sv, ycu w sv s.val ∧ w.cell? ⟨g, o + i * 2, none⟩ = some (.int .i64 s.var) ∧ w.cell? ⟨g, o + i * 2 + 1, none⟩ = some sv) := by
  obtain ⟨a, cap, hv, h3, h4, h5⟩ := Seq.open h
  refine ⟨a, cap, hv, h3, h4, fun hn => ?_⟩
  obtain ⟨g, o, ha, hg, hc⟩ := h5 hn
  refine ⟨g, o, ha, hg, fun i s hs => ?_⟩
  obtain ⟨cs, _, ⟨sv, rfl, q1⟩, q3⟩ := hc i s hs
  exact ⟨sv, q1, q3 0 _ rfl, q3 1 _ rfl⟩

theorem cellsVar : Tryz.prog.cellsOf 60 = 6 := by kernel_rfl
theorem cellsSet : Tryz.prog.cellsOf 81 = 2 := by kernel_rfl
theorem cellsRule : Tryz.prog.cellsOf 78 = 3 := by kernel_rfl
theorem cellsProgram : Tryz.prog.cellsOf 25 = 3 := by kernel_rfl
theorem cellsString : Tryz.prog.cellsOf 9 = 1 := by kernel_rfl
theorem cellsTerms : Tryz.prog.cellsOf 75 = 1 := by kernel_rfl
theorem cellsSets : Tryz.prog.cellsOf 76 = 1 := by kernel_rfl
theorem cellsVars : Tryz.prog.cellsOf 22 = 1 := by kernel_rfl
theorem cellsRules : Tryz.prog.cellsOf 23 = 1 := by kernel_rfl
theorem maxLen64 {n : Nat} (h : n ≤ maxLen) : n ≤ 9223372036854775807 := by unfold maxLen at h; omega

section
variable {H : Type} {enc : TypeId × Value → H} {w : World} {cs : List Value} {v : Value} {base : Nat} {d : DataW H} {ps : List MemPlace}
theorem rd_var (h : Rd enc Tryz.prog w 60 cs) : ∃ x : VarD, cs = varCells x ∧ VarIn x := by
  obtain ⟨h1, h2⟩ := rd_struct Tryz.underlying60 h
  rw [cellsVar] at h1
  match cs, h1 with
  | [a, b, c, d, e, f], _ =>
    have g0 := h2 0 _ rfl
    have g1 := h2 1 _ rfl
    have g2 := h2 2 _ rfl
    have g3 := h2 3 _ rfl
    have g4 := h2 4 _ rfl
    have g5 := h2 5 _ rfl
    simp [cellsInt, cellsString] at g0 g1 g2 g3 g4 g5
    obtain ⟨s, hs, hs'⟩ := rd_string Tryz.underlying9 g0
    obtain ⟨x1, e1, q1⟩ := yfn Tryz.underlying3 g1
    obtain ⟨x2, e2, q2⟩ := yfn Tryz.underlying3 g2
    obtain ⟨x3, e3, q3⟩ := yfn Tryz.underlying3 g3
    obtain ⟨x4, e4, q4⟩ := yfn Tryz.underlying3 g4
    obtain ⟨x5, e5, q5⟩ := yfn Tryz.underlying3 g5
    simp at hs e1 e2 e3 e4 e5
    exact ⟨⟨s, x1, x2, x3, x4, x5⟩, by simp [varCells, hs, e1, e2, e3, e4, e5], maxLen64 hs', q1, q2, q3, q4, q5⟩
theorem rd_set (h : Rd enc Tryz.prog w 81 cs) : ∃ s : SetD, SetOk w cs s ∧ SetIn s := by
  obtain ⟨h1, h2⟩ := rd_struct Tryz.underlying81 h
  rw [cellsSet] at h1
  match cs, h1 with
  | [a, b], _ =>
    have g0 := h2 0 _ rfl
    have g1 := h2 1 _ rfl
    simp [cellsInt, cellsTerms] at g0 g1
    obtain ⟨x1, e1, q1⟩ := yfn Tryz.underlying3 g0
    obtain ⟨v, l, e2, q2, q3⟩ := rd_terms g1
    simp at e1 e2
    exact ⟨⟨x1, l⟩, ⟨v, by simp [e1, e2], q2⟩, q1, q3⟩
theorem rd_rule (h : Rd enc Tryz.prog w 78 cs) : ∃ r : RuleD, RuleOk w cs r ∧ RuleIn r := by
  obtain ⟨h1, h2⟩ := rd_struct Tryz.underlying78 h
  rw [cellsRule] at h1
  match cs, h1 with
  | [a, b, c], _ =>
    have g0 := h2 0 _ rfl
    have g1 := h2 1 _ rfl
    have g2 := h2 2 _ rfl
    simp [cellsString, cellsTerms, cellsSets] at g0 g1 g2
    obtain ⟨s, hs, hs'⟩ := rd_string Tryz.underlying9 g0
    obtain ⟨gv, l, e2, q2, q3⟩ := rd_terms g1
    obtain ⟨sv, ss, e3, q4⟩ := open_seq (R := fun cs s => SetOk w cs s ∧ SetIn s) Tryz.underlying76 cellsSet (Nat.succ_pos 1) (fun cs h => rd_set h) g2
    simp at hs e2 e3
    refine ⟨⟨s, l, ss⟩, ⟨gv, sv, by simp [hs, e2, e3], q2, q4.imp fun _ _ _ h => h.1⟩, maxLen64 hs', q3, fun x hx => ?_⟩
    obtain ⟨xs, _, h2⟩ := q4
    obtain ⟨i, hi⟩ := List.getElem?_of_mem hx
    exact (h2 i x hi).2
theorem rd_vars (h : Rd enc Tryz.prog w 22 cs) : ∃ v l, cs = [v] ∧ VarsOk w v l ∧ ∀ x ∈ l, VarIn x := by
  obtain ⟨v, l, h1, h2⟩ := open_seq (R := fun cs x => cs = varCells x ∧ VarIn x) Tryz.underlying22 cellsVar (Nat.succ_pos 5) (fun cs h => rd_var h) h
  refine ⟨v, l, h1, seq_flat varCells (fun _ => rfl) (by omega) h2 (fun cs x h => h.1), fun x hx => ?_⟩
  obtain ⟨xs, _, h3⟩ := h2
  obtain ⟨i, hi⟩ := List.getElem?_of_mem hx
  exact (h3 i x hi).2
theorem rd_rules (h : Rd enc Tryz.prog w 23 cs) : ∃ v l, cs = [v] ∧ RulesOk w v l ∧ ∀ x ∈ l, RuleIn x := by
  obtain ⟨v, l, h1, h2⟩ := open_seq (R := fun cs x => RuleOk w cs x ∧ RuleIn x) Tryz.underlying23 cellsRule (Nat.succ_pos 2) (fun cs h => rd_rule h) h
  refine ⟨v, l, h1, h2.imp fun _ _ _ h => h.1, fun x hx => ?_⟩
  obtain ⟨xs, _, h3⟩ := h2
  obtain ⟨i, hi⟩ := List.getElem?_of_mem hx
  exact (h3 i x hi).2
theorem open_program (hv : Value.okWide Tryz.prog w .any base 25 v) (h : DataW.Trod enc Tryz.prog w 0 (fun _ => true) true 25 v d ps) : ∃ p, yfe w v p ∧ ProgIn p := by
  obtain ⟨cs, rfl, hcs⟩ : ∃ cs, v = .agg cs ∧ cs.size = Tryz.prog.cellsOf 25 := by
    unfold Value.okWide at hv
    rw [Tryz.underlying25] at hv
    obtain ⟨cs, h1, h2, _⟩ := hv
    exact ⟨cs, h1, h2⟩
  have hr := rd_of h
  simp only [Value.cells] at hr
  obtain ⟨h1, h2⟩ := rd_struct Tryz.underlying25 hr
  rw [cellsProgram] at h1
  obtain ⟨cs⟩ := cs
  simp only at h1 h2
  match cs, h1 with
  | [a, b, c], _ =>
    have g0 := h2 0 _ rfl
    have g1 := h2 1 _ rfl
    have g2 := h2 2 _ rfl
    simp [cellsString, cellsVars, cellsRules] at g0 g1 g2
    obtain ⟨s, hs, hs'⟩ := rd_string Tryz.underlying9 g0
    obtain ⟨vv, l, e2, q2, q3⟩ := rd_vars g1
    obtain ⟨rv, rr, e3, q4, q5⟩ := rd_rules g2
    simp at hs e2 e3
    exact ⟨⟨s, l, rr⟩, ⟨vv, rv, by simp [hs, e2, e3], q2, q4⟩, maxLen64 hs', q3, q5⟩
end
end Go.Proofs.YtmlkdoimkdbdpaaGreatDoor
