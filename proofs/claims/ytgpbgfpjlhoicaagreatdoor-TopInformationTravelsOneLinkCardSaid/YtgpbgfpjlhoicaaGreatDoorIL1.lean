/- Part 1 of the texts under TopInformationTravelsOneLink: joined, with what it needs alone. -/
import Derived.Below
import Derived.WalkSmall
import Derived.Test.YtgpbgfpjlhoicaaGreatDoorRows
import Derived.WalkKit
import Derived.WalkSpells
import Derived.WalkLawsBesides
import Derived.Lib.Hide
import Derived.Deep.Slices
import Derived.ChangeArms
import Derived.OpenShut
import Derived.WideShapes
import Derived.Deep.AppendLies
import Derived.Deep.RegionLaw
import Derived.Deep.LoopGhost
import Derived.Deep.RegionHeld3
import Derived.Deep.QuietTactic
import Derived.BigQuiet
namespace Go.Proofs.YtgpbgfpjlhoicaaGreatDoor
section
open Go.RowKit
abbrev Tm := Int × Int
def ar (op : Int) : Int := if op < 1 ∨ 43 < op then -1 else if op ≤ 17 then 0 else if op ≤ 29 then 1 else if op ≤ 42 then 2 else 3
def yhs (op : Int) : Bool := decide (20 ≤ op) && decide (op ≤ 29)
theorem zea (op : Int) : -1 ≤ ar op ∧ ar op ≤ 3 := by
 unfold ar; repeat' split
 all_goals omega
inductive Ex where
 | lf (t : Tm)
 | un (t : Tm) (a : Ex)
 | bi (t : Tm) (a b : Ex)
 | tr (t : Tm) (a b c : Ex)
namespace Ex
def fl : Ex → List Tm
 | lf t => [t]
 | un t a => t :: a.fl
 | bi t a b => t :: (a.fl ++ b.fl)
 | tr t a b c => t :: (a.fl ++ (b.fl ++ c.fl))
def ok : Ex → Prop
 | lf t => ar t.1 = 0
 | un t a => ar t.1 = 1 ∧ a.ok
 | bi t a b => ar t.1 = 2 ∧ a.ok ∧ b.ok
 | tr t a b c => ar t.1 = 3 ∧ a.ok ∧ b.ok ∧ c.ok
def dp : Ex → Nat
 | lf _ => 1
 | un _ a => a.dp + 1
 | bi _ a b => max a.dp b.dp + 1
 | tr _ a b c => max a.dp (max b.dp c.dp) + 1
def ns : Ex → Nat
 | lf _ => 0
 | un t a => if yhs t.1 then a.ns + 1 else a.ns
 | bi _ a b => max a.ns b.ns
 | tr _ a b c => max a.ns (max b.ns c.ns)
theorem fl_pos (E : Ex) : 1 ≤ E.fl.length := by cases E <;> simp [fl]
end Ex
def zhh : Nat → List Tm → Option Nat
 | 0, _ => some 0
 | _ + 1, [] => none
 | w + 1, t :: l => if ar t.1 < 0 then none else (zhh (w + (ar t.1).toNat) l).map (· + 1)
theorem ykx (l : List Tm) : zhh 0 l = some 0 := by cases l <;> rfl
theorem endN_nil (w : Nat) : zhh (w + 1) [] = none := rfl
theorem zjp (w : Nat) (t : Tm) (l : List Tm) (h : ar t.1 < 0) : zhh (w + 1) (t :: l) = none := by simp only [zhh]; rw [if_pos h]
theorem ykw (w : Nat) (t : Tm) (l : List Tm) (h : ¬ ar t.1 < 0) : zhh (w + 1) (t :: l) = (zhh (w + (ar t.1).toNat) l).map (· + 1) := by simp only [zhh]; rw [if_neg h]
theorem zbz (E : Ex) : E.ok → ∀ (w : Nat) (r : List Tm), zhh (w + 1) (E.fl ++ r) = (zhh w r).map (· + E.fl.length) := by
 induction E with
 | lf t =>
  intro h w r
  have h' : ar t.1 = 0 := h
  simp only [Ex.fl, List.cons_append, List.nil_append]
  rw [ykw w t r (by omega), h']; rfl
 | un t a iha =>
  intro ⟨h, ha⟩ w r
  simp only [Ex.fl, List.cons_append]
  rw [ykw w t _ (by omega), h, show w + (1 : Int).toNat = w + 1 from rfl, iha ha, Option.map_map]
  congr 1
 | bi t a b iha ihb =>
  intro ⟨h, ha, hb⟩ w r
  simp only [Ex.fl, List.cons_append, List.append_assoc]
  rw [ykw w t _ (by omega), h, show w + (2 : Int).toNat = (w + 1) + 1 from rfl, iha ha, ihb hb, Option.map_map, Option.map_map]
  congr 1
  funext x; simp [List.length_append]; omega
 | tr t a b c iha ihb ihc =>
  intro ⟨h, ha, hb, hc⟩ w r
  simp only [Ex.fl, List.cons_append, List.append_assoc]
  rw [ykw w t _ (by omega), h, show w + (3 : Int).toNat = ((w + 1) + 1) + 1 from rfl, iha ha, ihb hb, ihc hc, Option.map_map, Option.map_map, Option.map_map]
  congr 1
  funext x; simp [List.length_append]; omega
def ydy : List Tm → Option (List Ex)
 | [] => some []
 | t :: l =>
  match ydy l with
  | none => none
  | some F =>
   if ar t.1 = 0 then some (.lf t :: F)
   else if ar t.1 = 1 then (match F with | a :: F => some (.un t a :: F) | _ => none)
   else if ar t.1 = 2 then (match F with | a :: b :: F => some (.bi t a b :: F) | _ => none)
   else if ar t.1 = 3 then (match F with | a :: b :: c :: F => some (.tr t a b c :: F) | _ => none)
   else none
theorem yrf (E : Ex) : E.ok → ∀ (r : List Tm) (F : List Ex), ydy r = some F → ydy (E.fl ++ r) = some (E :: F) := by
 induction E with
 | lf t => intro h r F hr; have h' : ar t.1 = 0 := h; simp [Ex.fl, ydy, hr, h']
 | un t a iha => intro ⟨h, ha⟩ r F hr; simp [Ex.fl, ydy, iha ha r F hr, h]
 | bi t a b iha ihb => intro ⟨h, ha, hb⟩ r F hr; simp [Ex.fl, ydy, iha ha _ _ (ihb hb r F hr), h]
 | tr t a b c iha ihb ihc => intro ⟨h, ha, hb, hc⟩ r F hr; simp [Ex.fl, ydy, iha ha _ _ (ihb hb _ _ (ihc hc r F hr)), h]
def yqj (F : List Ex) : List Tm := F.flatMap Ex.fl
theorem forest_inv (l : List Tm) : ∀ F, ydy l = some F → (∀ E ∈ F, E.ok) ∧ yqj F = l := by
 induction l with
 | nil => intro F h; simp [ydy] at h; subst h; simp [yqj]
 | cons t l ih =>
  intro F h
  simp only [ydy] at h
  cases hl : ydy l with
  | none => rw [hl] at h; cases h
  | some G =>
   obtain ⟨h1, h2⟩ := ih G hl
   rw [hl] at h
   simp only at h
   by_cases a0 : ar t.1 = 0
   ·rw [if_pos a0] at h; cases h
    refine ⟨fun E hE => ?_, by simp only [yqj, List.flatMap_cons, Ex.fl] at *; rw [h2]; rfl⟩
    cases hE with
    | head => exact a0
    | tail _ hE => exact h1 E hE
   rw [if_neg a0] at h
   by_cases a1 : ar t.1 = 1
   ·rw [if_pos a1] at h
    match G, h, h1, h2 with
    | a :: G, h, h1, h2 =>
     cases h
     refine ⟨fun E hE => ?_, by simp only [yqj, List.flatMap_cons, Ex.fl] at *; rw [← h2]; rfl⟩
     cases hE with
     | head => exact ⟨a1, h1 a (List.mem_cons_self ..)⟩
     | tail _ hE => exact h1 E (List.mem_cons_of_mem _ hE)
   rw [if_neg a1] at h
   by_cases a2 : ar t.1 = 2
   ·rw [if_pos a2] at h
    match G, h, h1, h2 with
    | a :: b :: G, h, h1, h2 =>
     cases h
     refine ⟨fun E hE => ?_, by simp only [yqj, List.flatMap_cons, Ex.fl] at *; rw [← h2]; simp⟩
     cases hE with
     | head => exact ⟨a2, h1 a (by simp), h1 b (by simp)⟩
     | tail _ hE => exact h1 E (List.mem_cons_of_mem _ (List.mem_cons_of_mem _ hE))
   rw [if_neg a2] at h
   by_cases a3 : ar t.1 = 3
   ·rw [if_pos a3] at h
    match G, h, h1, h2 with
    | a :: b :: c :: G, h, h1, h2 =>
     cases h
     refine ⟨fun E hE => ?_, by simp only [yqj, List.flatMap_cons, Ex.fl] at *; rw [← h2]; simp⟩
     cases hE with
     | head => exact ⟨a3, h1 a (by simp), h1 b (by simp), h1 c (by simp)⟩
     | tail _ hE => exact h1 E (List.mem_cons_of_mem _ (List.mem_cons_of_mem _ (List.mem_cons_of_mem _ hE)))
   rw [if_neg a3] at h; cases h
def yex (l : List Tm) : Option Ex := match ydy l with | some [E] => some E | _ => none
theorem parse_fl (E : Ex) (h : E.ok) : yex E.fl = some E := by
 have := yrf E h [] [] rfl
 rw [List.append_nil] at this
 unfold yex; rw [this]
theorem ygk {l : List Tm} {E : Ex} (h : yex l = some E) : E.ok ∧ E.fl = l := by
 unfold yex at h
 split at h
 ·rename_i E' hf
  cases h
  obtain ⟨h1, h2⟩ := forest_inv l _ hf
  exact ⟨h1 E (by simp), by simpa [yqj] using h2⟩
 ·cases h
theorem endN_forest (l : List Tm) : ∀ (w n : Nat), zhh w l = some n → ∃ F : List Ex, F.length = w ∧ (∀ E ∈ F, E.ok) ∧ l.take n = yqj F := by
 induction l with
 | nil => intro w n h; cases w <;> simp [zhh] at h; exact ⟨[], rfl, by simp, by simp [yqj]⟩
 | cons t l ih =>
  intro w n h
  cases w with
  | zero => rw [ykx] at h; cases h; exact ⟨[], rfl, by simp, by simp [yqj]⟩
  | succ w =>
   by_cases hb : ar t.1 < 0
   ·rw [zjp w t l hb] at h; cases h
   ·rw [ykw w t l hb, Option.map_eq_some_iff] at h
    obtain ⟨m, hm, rfl⟩ := h
    obtain ⟨F, h1, h2, h3⟩ := ih _ _ hm
    rw [List.take_succ_cons, h3]
    have hk := zea t.1
    have cases4 : ar t.1 = 0 ∨ ar t.1 = 1 ∨ ar t.1 = 2 ∨ ar t.1 = 3 := by omega
    rcases cases4 with hk | hk | hk | hk <;> rw [hk] at h1
    ·exact ⟨.lf t :: F, by simp at *; omega, fun E hE => by
      cases hE with
      | head => exact hk
      | tail _ hE => exact h2 E hE, by simp [yqj, Ex.fl]⟩
    ·match F, h1, h2 with
     | a :: F, h1, h2 => exact ⟨.un t a :: F, by simp at *; omega, fun E hE => by
       cases hE with
       | head => exact ⟨hk, h2 a (by simp)⟩
       | tail _ hE => exact h2 E (List.mem_cons_of_mem _ hE), by simp [yqj, Ex.fl]⟩
     | [], h1, _ => simp at h1
    ·match F, h1, h2 with
     | a :: b :: F, h1, h2 => exact ⟨.bi t a b :: F, by simp at *; omega, fun E hE => by
       cases hE with
       | head => exact ⟨hk, h2 a (by simp), h2 b (by simp)⟩
       | tail _ hE => exact h2 E (List.mem_cons_of_mem _ (List.mem_cons_of_mem _ hE)), by simp [yqj, Ex.fl]⟩
     | [a], h1, _ => simp at h1
     | [], h1, _ => simp at h1
    ·match F, h1, h2 with
     | a :: b :: c :: F, h1, h2 => exact ⟨.tr t a b c :: F, by simp at *; omega, fun E hE => by
       cases hE with
       | head => exact ⟨hk, h2 a (by simp), h2 b (by simp), h2 c (by simp)⟩
       | tail _ hE => exact h2 E (List.mem_cons_of_mem _ (List.mem_cons_of_mem _ (List.mem_cons_of_mem _ hE))), by simp [yqj, Ex.fl]⟩
     | [a, b], h1, _ => simp at h1
     | [a], h1, _ => simp at h1
     | [], h1, _ => simp at h1
theorem parse_iff (l : List Tm) : (∃ E, yex l = some E) ↔ zhh 1 l = some l.length := by
 constructor
 ·rintro ⟨E, h⟩
  obtain ⟨h1, h2⟩ := ygk h
  have := zbz E h1 0 []
  rw [List.append_nil, h2, ykx] at this
  simpa using this
 ·intro h
  obtain ⟨F, h1, h2, h3⟩ := endN_forest l 1 l.length h
  match F, h1, h2, h3 with
  | [E], _, h2, h3 =>
   refine ⟨E, ?_⟩
   rw [List.take_length] at h3
   rw [h3, yqj, List.flatMap_cons, List.flatMap_nil, List.append_nil]
   exact parse_fl E (h2 E (by simp))
def yqc (vars : Int) (t : Tm) : Bool :=
 if t.1 = 1 then decide (0 ≤ t.2) && decide (t.2 ≤ 1073741824) else if t.1 = 5 ∨ t.1 = 12 then decide (0 ≤ t.2) && decide (t.2 < vars) else decide (t.2 = 0)
def ydc (l : List Tm) (vars : Int) : Bool :=
 match yex l with
 | none => false
 | some E => decide (l.length ≤ 200) && (l.all (yqc vars) && (decide (E.dp ≤ 24) && decide (E.ns ≤ 2)))
end
set_option linter.unusedVariables false
section
open Go.RowKit
abbrev Lk := Int × Int
structure GraphD where
 ids : List Int
 ports : List (List Lk)
def GraphD.n (g : GraphD) : Nat := g.ports.length
def zfp (n v : Nat) (l : Lk) : Bool := decide (0 ≤ l.1) && (decide (l.1 < n) && (!(l.1 == (v : Int)) && (decide (1 ≤ l.2) && decide (l.2 ≤ 15))))
theorem ybu (n v : Nat) (l : Lk) : zfp n v l = true ↔ 0 ≤ l.1 ∧ l.1 < n ∧ l.1 ≠ v ∧ 1 ≤ l.2 ∧ l.2 ≤ 15 := by
 unfold zfp
 simp
def ygq (n v : Nat) (ls : List Lk) : Bool := ls.all (zfp n v) && decide ((ls.map (·.1)).Nodup)
def idB (x : Int) : Bool := decide (0 ≤ x) && decide (x ≤ 255)
def zhi (l : List Int) : Bool := l.all idB && decide l.Nodup
def yfm (ls : List Lk) (u : Int) : Int := match ls.find? (fun l => l.1 == u) with | some l => l.2 | none => 0
def yxv (ports : List (List Lk)) : Bool := (List.range ports.length).all fun v => ygq ports.length v (ports.getD v [])
def zuq (ports : List (List Lk)) : Bool := (List.range ports.length).all fun v => (ports.getD v []).all fun l => yfm (ports.getD l.1.toNat []) v == l.2
def ydd (g : GraphD) : Bool := decide (1 ≤ g.ports.length) && (decide (g.ports.length ≤ 24) && (decide (g.ids.length = g.ports.length) && (zhi g.ids && (yxv g.ports && zuq g.ports))))
theorem pigeon (n : Nat) : ∀ l : List Nat, l.Nodup → (∀ x ∈ l, x < n) → l.length ≤ n := by
 induction n with
 | zero =>
  intro l _ h
  cases l with
  | nil => simp
  | cons a l => exact absurd (h a (by simp)) (by omega)
 | succ n ih =>
  intro l hn h
  by_cases hm : n ∈ l
  ·have h1 := ih (l.erase n) (hn.erase n) (fun x hx => by
    have h2 := h x (List.mem_of_mem_erase hx)
    have h3 : x ≠ n := fun e => by rw [e] at hx; exact (List.Nodup.not_mem_erase hn) hx
    omega)
   rw [List.length_erase_of_mem hm] at h1
   omega
  ·have := ih l hn (fun x hx => by have h2 := h x hx; have h3 : x ≠ n := fun e => hm (e ▸ hx); omega)
   omega
theorem nodup_map_inj {α β : Type} (f : α → β) : ∀ l : List α, l.Nodup → (∀ x ∈ l, ∀ y ∈ l, f x = f y → x = y) → (l.map f).Nodup := by
 intro l
 induction l with
 | nil => intro _ _; simp
 | cons a l ih =>
  intro hn hf
  rw [List.map_cons, List.nodup_cons] at *
  refine ⟨fun h => ?_, ih hn.2 fun x hx y hy h => hf x (by simp [hx]) y (by simp [hy]) h⟩
  rw [List.mem_map] at h
  obtain ⟨b, hb, he⟩ := h
  exact hn.1 (hf b (by simp [hb]) a (by simp) he ▸ hb)
theorem ycq {n v : Nat} {ls : List Lk} (hv : v < n) (h : ygq n v ls = true) : ls.length < n := by
 unfold ygq at h
 rw [Bool.and_eq_true, decide_eq_true_eq, List.all_eq_true] at h
 obtain ⟨h1, h2⟩ := h
 have hb : ∀ x : Int, x ∈ ls.map (·.1) → 0 ≤ x ∧ x < n ∧ x ≠ v := by
  intro x hx
  rw [List.mem_map] at hx
  obtain ⟨l, hl, rfl⟩ := hx
  have := (ybu n v l).1 (h1 l hl)
  exact ⟨this.1, this.2.1, this.2.2.1⟩
 have h3 : ((ls.map (·.1)).map Int.toNat).Nodup := nodup_map_inj Int.toNat _ h2 fun x hx y hy he => by
  have hx' := hb x hx
  have hy' := hb y hy
  omega
 have h4 := pigeon n (v :: (ls.map (·.1)).map Int.toNat) (by
  rw [List.nodup_cons]
  refine ⟨fun hm => ?_, h3⟩
  rw [List.mem_map] at hm
  obtain ⟨x, hx, he⟩ := hm
  have := hb x hx
  omega) (fun x hx => by
   rcases List.mem_cons.1 hx with rfl | hx
   ·exact hv
   ·rw [List.mem_map] at hx
    obtain ⟨y, hy, rfl⟩ := hx
    have := hb y hy
    omega)
 simp at h4
 omega
theorem ybp {g : GraphD} (h : ydd g = true) : 1 ≤ g.ports.length ∧ g.ports.length ≤ 24 ∧ g.ids.length = g.ports.length ∧ (∀ x ∈ g.ids, 0 ≤ x ∧ x ≤ 255) ∧ g.ids.Nodup ∧
  (∀ (v : Nat) (ls : List Lk), g.ports[v]? = some ls → ygq g.ports.length v ls = true) ∧ (∀ (v : Nat) (ls : List Lk), g.ports[v]? = some ls → ∀ l ∈ ls, yfm (g.ports.getD l.1.toNat []) v = l.2) := by
 unfold ydd at h
 simp only [Bool.and_eq_true, decide_eq_true_eq] at h
 obtain ⟨h1, h2, h3, h4, h5, h6⟩ := h
 unfold zhi at h4
 simp only [Bool.and_eq_true, decide_eq_true_eq, List.all_eq_true, idB] at h4
 refine ⟨h1, h2, h3, h4.1, h4.2, fun v ls hv => ?_, fun v ls hv l hl => ?_⟩
 ·have hlt := (List.getElem?_eq_some_iff.1 hv).1
  have := List.all_eq_true.1 h5 v (List.mem_range.2 hlt)
  rw [List.getD_eq_getElem?_getD, hv] at this
  exact this
 ·have hlt := (List.getElem?_eq_some_iff.1 hv).1
  have := List.all_eq_true.1 h6 v (List.mem_range.2 hlt)
  rw [List.getD_eq_getElem?_getD, hv] at this
  have := List.all_eq_true.1 this l hl
  simpa using this
end
section
theorem zcj {l : List Int} {k : Nat} {x : Int} (hx : l[k]? = some x) (h : idB x = false) : zhi l = false := by
 unfold zhi
 rw [List.all_eq_false.2 ⟨x, List.mem_of_getElem? hx, by simp [h]⟩]; rfl
theorem zad {l : List Int} {k : Nat} {x : Int} (hx : l[k]? = some x) (h : x ∈ l.take k) : zhi l = false := by
 unfold zhi
 have : ¬ l.Nodup := by
  intro hn
  obtain ⟨j, hj⟩ := List.getElem?_of_mem h
  rw [List.getElem?_take] at hj
  split at hj
  ·rename_i hjk
   have h1 := List.getElem?_eq_some_iff.1 hj
   have h2 := List.getElem?_eq_some_iff.1 hx
   have := (List.pairwise_iff_getElem.1 hn) j k h1.1 h2.1 hjk
   rw [h1.2, h2.2] at this
   exact this rfl
  ·cases hj
 simp [this]
theorem idsB_iff (l : List Int) : zhi l = true ↔ (∀ x ∈ l, idB x = true) ∧ l.Nodup := by
 unfold zhi; rw [Bool.and_eq_true, decide_eq_true_eq, List.all_eq_true]
theorem ygu {α : Type} {l : List α} {k : Nat} {x : α} (hx : l[k]? = some x) : l.take (k + 1) = l.take k ++ [x] := by
 rw [List.take_add_one, hx]; rfl
theorem zfj {l : List Int} {k : Nat} {x : Int} (hx : l[k]? = some x) (h : zhi (l.take k) = true) (h1 : idB x = true) (h2 : x ∉ l.take k) : zhi (l.take (k + 1)) = true := by
 rw [idsB_iff] at *
 rw [ygu hx]
 refine ⟨fun y hy => ?_, ?_⟩
 ·rcases List.mem_append.1 hy with hy | hy
  ·exact h.1 y hy
  ·simp at hy; subst hy; exact h1
 ·rw [List.nodup_append]
  exact ⟨h.2, by simp, fun a ha b hb => by simp at hb; subst hb; exact fun e => h2 (e ▸ ha)⟩
def bits (l : List Int) : List Bool := (List.range 256).map fun i : Nat => decide ((i : Int) ∈ l)
theorem bits_nil : bits [] = List.replicate 256 false := by
 unfold bits
 rw [show (fun i : Nat => decide ((i : Int) ∈ ([] : List Int))) = fun _ => false from by funext i; simp, List.map_const', List.length_range]
theorem bits_len (l : List Int) : (bits l).length = 256 := by simp [bits]
theorem bits_get (l : List Int) (x : Int) (h0 : 0 ≤ x) (h1 : x ≤ 255) : (bits l)[x.toNat]? = some (decide (x ∈ l)) := by
 unfold bits
 rw [List.getElem?_map, List.getElem?_range (by omega)]
 have : ((x.toNat : Nat) : Int) = x := by omega
 simp [this]
theorem bits_set (l : List Int) (x : Int) (h0 : 0 ≤ x) (h1 : x ≤ 255) : (bits l).set x.toNat true = bits (l ++ [x]) := by
 apply List.ext_getElem
 ·simp [bits]
 ·intro i h2 h3
  have hx : ((x.toNat : Nat) : Int) = x := by omega
  rw [List.getElem_set]
  unfold bits
  simp only [List.getElem_map, List.getElem_range, List.mem_append, List.mem_singleton]
  by_cases hi : x.toNat = i
  ·subst hi
   simp [hx]
  ·have : ¬ ((i : Nat) : Int) = x := by omega
   simp [hi, this]
end
section
theorem ycl (n v : Nat) (l : List Lk) : ygq n v l = true ↔ (∀ x ∈ l, zfp n v x = true) ∧ (l.map (·.1)).Nodup := by
 unfold ygq; rw [Bool.and_eq_true, decide_eq_true_eq, List.all_eq_true]
theorem ygj {n v : Nat} {l : List Lk} {k : Nat} {x : Lk} (hx : l[k]? = some x) (h : zfp n v x = false) : ygq n v l = false := by
 rw [← Bool.not_eq_true, ycl]
 intro h1
 rw [h1.1 x (List.mem_of_getElem? hx)] at h; cases h
theorem yuk {n v : Nat} {l : List Lk} {j k : Nat} {x y : Lk} (hjk : j < k) (hy : l[j]? = some y) (hx : l[k]? = some x) (h : y.1 = x.1) : ygq n v l = false := by
 rw [← Bool.not_eq_true, ycl]
 intro h1
 have g1 := List.getElem?_eq_some_iff.1 hy
 have g2 := List.getElem?_eq_some_iff.1 hx
 have := (List.pairwise_iff_getElem.1 h1.2) j k (by simpa using g1.1) (by simpa using g2.1) hjk
 simp [g1.2, g2.2, h] at this
theorem yxh {n v : Nat} {l : List Lk} {k : Nat} {x : Lk} (hx : l[k]? = some x) (h : ygq n v (l.take k) = true) (h1 : zfp n v x = true) (h2 : ∀ (j : Nat) (y : Lk), j < k → l[j]? = some y → y.1 ≠ x.1) : ygq n v (l.take (k + 1)) = true := by
 rw [ycl] at *
 rw [ygu hx]
 refine ⟨fun y hy => ?_, ?_⟩
 ·rcases List.mem_append.1 hy with hy | hy
  ·exact h.1 y hy
  ·simp at hy; subst hy; exact h1
 ·rw [List.map_append, List.nodup_append]
  refine ⟨h.2, by simp, fun a ha b hb => ?_⟩
  simp at hb; subst hb
  obtain ⟨y, hy, rfl⟩ := List.mem_map.1 ha
  obtain ⟨j, hj⟩ := List.getElem?_of_mem hy
  rw [List.getElem?_take] at hj
  split at hj
  ·rename_i hjk; exact h2 j y hjk hj
  ·cases hj
def yia (l : List Lk) (u : Int) : Int := match l.findIdx? (fun x => x.1 == u) with | some i => i | none => -1
theorem yxt {l : List Lk} {u : Int} (h : ∀ (j : Nat) (y : Lk), l[j]? = some y → y.1 ≠ u) : yia l u = -1 := by
 unfold yia
 have : l.findIdx? (fun x => x.1 == u) = none := by
  rw [List.findIdx?_eq_none_iff]
  intro x hx
  obtain ⟨j, hj⟩ := List.getElem?_of_mem hx
  simpa using h j x hj
 rw [this]
theorem yxu {l : List Lk} {u : Int} {k : Nat} {x : Lk} (hx : l[k]? = some x) (hu : x.1 = u) (h : ∀ (j : Nat) (y : Lk), j < k → l[j]? = some y → y.1 ≠ u) : yia l u = k := by
 unfold yia
 have : l.findIdx? (fun x => x.1 == u) = some k := by
  rw [List.findIdx?_eq_some_iff_getElem]
  have g := List.getElem?_eq_some_iff.1 hx
  refine ⟨g.1, by simp [g.2, hu], fun j hj => ?_⟩
  have hjl : j < l.length := by have := g.1; omega
  have := h j l[j] hj (List.getElem?_eq_getElem hjl)
  simpa using this
 rw [this]
theorem ynr (l : List Lk) (u : Int) : (yia l u = -1 ∧ ∀ x ∈ l, x.1 ≠ u) ∨ ∃ (k : Nat) (x : Lk), yia l u = k ∧ l[k]? = some x ∧ x.1 = u ∧ l.find? (fun x => x.1 == u) = some x := by
 unfold yia
 cases hf : l.findIdx? (fun x => x.1 == u) with
 | none =>
  rw [List.findIdx?_eq_none_iff] at hf
  exact .inl ⟨rfl, fun x hx => by simpa using hf x hx⟩
 | some k =>
  obtain ⟨h1, h2, h3⟩ := List.findIdx?_eq_some_iff_getElem.1 hf
  refine .inr ⟨k, l[k], rfl, List.getElem?_eq_getElem h1, by simpa using h2, ?_⟩
  rw [List.find?_eq_some_iff_getElem]
  exact ⟨h2, k, h1, rfl, fun j hj => by simpa using h3 j hj⟩
theorem yyt {l : List Lk} {u : Int} (h : ∀ x ∈ l, x.1 ≠ u) : yfm l u = 0 := by
 unfold yfm
 have : l.find? (fun x => x.1 == u) = none := by
  rw [List.find?_eq_none]; intro x hx; simpa using h x hx
 rw [this]
theorem yyu {l : List Lk} {u : Int} {x : Lk} (h : l.find? (fun x => x.1 == u) = some x) : yfm l u = x.2 := by unfold yfm; rw [h]
theorem yiu (g : GraphD) : ydd g = true ↔ 1 ≤ g.ports.length ∧ g.ports.length ≤ 24 ∧ g.ids.length = g.ports.length ∧ zhi g.ids = true ∧ yxv g.ports = true ∧ zuq g.ports = true := by
 unfold ydd; simp only [Bool.and_eq_true, decide_eq_true_eq]
theorem yhi (ports : List (List Lk)) : yxv ports = true ↔ ∀ (v : Nat) (ls : List Lk), ports[v]? = some ls → ygq ports.length v ls = true := by
 unfold yxv
 rw [List.all_eq_true]
 constructor
 ·intro h v ls hv
  have := h v (List.mem_range.2 (List.getElem?_eq_some_iff.1 hv).1)
  rwa [List.getD_eq_getElem?_getD, hv] at this
 ·intro h v hv
  obtain ⟨ls, hls⟩ : ∃ ls, ports[v]? = some ls := ⟨_, List.getElem?_eq_getElem (List.mem_range.1 hv)⟩
  rw [List.getD_eq_getElem?_getD, hls]
  exact h v ls hls
theorem yvx (ports : List (List Lk)) : zuq ports = true ↔ ∀ (v : Nat) (ls : List Lk), ports[v]? = some ls → ∀ l ∈ ls, yfm (ports.getD l.1.toNat []) v = l.2 := by
 unfold zuq
 rw [List.all_eq_true]
 constructor
 ·intro h v ls hv l hl
  have := h v (List.mem_range.2 (List.getElem?_eq_some_iff.1 hv).1)
  rw [List.getD_eq_getElem?_getD, hv] at this
  simpa using List.all_eq_true.1 this l hl
 ·intro h v hv
  obtain ⟨ls, hls⟩ : ∃ ls, ports[v]? = some ls := ⟨_, List.getElem?_eq_getElem (List.mem_range.1 hv)⟩
  rw [List.getD_eq_getElem?_getD, hls]
  rw [Option.getD_some, List.all_eq_true]
  intro l hl
  simpa using h v ls hls l hl
end
section
open Go.RowKit
theorem zma {W w1 : World} (hb : Below W.heap.size W w1) : (∀ b o, b < W.heap.size → w1.cell? ⟨b, o, none⟩ = W.cell? ⟨b, o, none⟩) ∧ (∀ b o, b < W.heap.size → w1.frozen? ⟨b, o, none⟩ = W.frozen? ⟨b, o, none⟩) :=
 ⟨fun b o h => hb.cell (p := ⟨b, o, none⟩) h, fun b o h => hb.frozen (p := ⟨b, o, none⟩) h⟩
theorem yeg {w w1 w2 : World} (h1 : Below w.heap.size w w1) (h2 : Below w1.heap.size w1 w2) : Below w.heap.size w w2 := h1.trans (h2.mono h1.size)
theorem zqp {w w1 : World} (h1 : Below w.heap.size w w1) (n : Nat) : Below w.heap.size w (w1.drewN n) := below_drewN h1 n
theorem yab {a b : Bool} (h : a = b) : Ending.returned (.bool a) = .returned (.bool b) := by rw [h]
theorem ybh {k : IntKind} {a b : Int} (h : a = b) : Ending.returned (.int k a) = .returned (.int k b) := by rw [h]
def Row (w : World) (v : Value) (size n : Nat) (xs : List Value) : Prop :=
 ∃ a cap, v = .slice a n cap ∧ n ≤ cap ∧ cap ≤ maxLen ∧ xs.length = n * size ∧ (a = none → cap = 0) ∧
  (n = 0 ∨ ∃ g o, a = some ⟨g, o, none⟩ ∧ g < w.heap.size ∧ ∀ j u, xs[j]? = some u → w.cell? ⟨g, o + j, none⟩ = some u)
theorem Row.below {w w' : World} {v : Value} {size n : Nat} {xs : List Value} (h : Row w v size n xs) (hb : Below w.heap.size w w') : Row w' v size n xs := by
 obtain ⟨a, cap, hv, h1, h2, h3, h4, h5⟩ := h
 refine ⟨a, cap, hv, h1, h2, h3, h4, ?_⟩
 rcases h5 with h5 | ⟨g, o, ha, hg, hc⟩
 ·exact .inl h5
 ·exact .inr ⟨g, o, ha, Nat.lt_of_lt_of_le hg hb.size, fun j u hu => (hb.cell (p := ⟨g, _, none⟩) hg).trans (hc j u hu)⟩
theorem yfw {w w' : World} {B e size n : Nat} {v : Value} {xs : List Value} (h : w.ownsRow B e size v n xs) (hb : Below w.heap.size w w') : w'.ownsRow B e size v n xs := by
 obtain ⟨h1, h2⟩ := h
 refine ⟨h1, ?_⟩
 rcases h2 with h2 | ⟨g, cap, cur, hv, hg, hh, r⟩
 ·exact .inl h2
 ·exact .inr ⟨g, cap, cur, hv, hg, by rw [hb.block g (by rcases Nat.lt_or_ge g w.heap.size with h | h; exact h; simp [Array.getElem?_eq_none h] at hh)]; exact hh, r⟩
theorem ylj {w : World} {B e size n : Nat} {v : Value} {xs : List Value} (h : w.ownsRow B e size v n xs) : ∃ a cap, v = .slice a n cap := by
 rcases h.2 with ⟨rfl, rfl⟩ | ⟨g, cap, cur, hv, _⟩
 ·exact ⟨_, _, rfl⟩
 ·exact ⟨_, _, hv⟩
theorem zau {w : World} {B e size n : Nat} {v : Value} {xs : List Value} (h : w.ownsRow B e size v n xs) : ∀ k, v.ownBlock = some k → B ≤ k := fun k hk => (h.lt k hk).1
theorem yrs (W : World) (l : List Value) (e n : Nat) (hn : n = W.heap.size) : ∀ j u, l[j]? = some u → (W.alloc (.cells l.toArray e)).cell? ((⟨n, 0, none⟩ : Addr).add j) = some u := by
 intro j u h
 subst hn
 have h0 : (⟨W.heap.size, 0, none⟩ : Addr).add j = ⟨W.heap.size, j, none⟩ := by
  unfold Addr.add
  split <;> simp_all
 rw [h0]
 have h1 : (W.alloc (.cells l.toArray e)).heap[W.heap.size]? = some (.cells l.toArray e) := by
  show (W.heap.push (.cells l.toArray e))[W.heap.size]? = _
  rw [Array.getElem?_push, if_pos rfl]
 unfold World.cell?
 simp only [h1]
 simpa using h
theorem ytn {w : World} {B e size n : Nat} {v : Value} {xs : List Value} (h : w.ownsRow B e size v n xs) : Row w v size n xs := by
 obtain ⟨h1, h2⟩ := h
 rcases h2 with ⟨rfl, rfl⟩ | ⟨g, cap, cur, hv, hg, hh, hle, hcap, hcs, htk⟩
 ·exact ⟨none, 0, rfl, by omega, by simp [maxLen], h1, fun _ => rfl, .inl rfl⟩
 ·refine ⟨some ⟨g, 0, none⟩, cap, hv, hle, hcap, h1, (fun h => by cases h), .inr ⟨g, 0, rfl, ?_, fun j u hu => ?_⟩⟩
  ·rcases Nat.lt_or_ge g w.heap.size with h | h
   ·exact h
   ·simp [Array.getElem?_eq_none h] at hh
  ·have hj : (cur.toList.take (n * size))[j]? = some u := by rw [htk]; exact hu
   rw [List.getElem?_take] at hj
   unfold World.cell?
   simp only [hh, Nat.zero_add]
   split at hj
   ·simpa using hj
   ·cases hj
theorem row_nil (w : World) (size : Nat) : Row w (.slice none 0 0) size 0 [] := ⟨none, 0, rfl, by simp, by simp [maxLen], by simp, fun _ => rfl, .inl rfl⟩
theorem Row.open {w : World} {v : Value} {size n : Nat} {xs : List Value} (h : Row w v size n xs) : ∃ a cap, v = .slice a n cap ∧ n ≤ cap ∧ cap ≤ 9223372036854775807 ∧ (a = none → cap = 0) ∧
  (0 < n → ∃ g o, a = some ⟨g, o, none⟩ ∧ g < w.heap.size ∧ ∀ j u, xs[j]? = some u → w.cell? ⟨g, o + j, none⟩ = some u) := by
 obtain ⟨a, cap, hv, h1, h2, h3, h4, h5⟩ := h
 unfold maxLen at h2
 refine ⟨a, cap, hv, h1, by omega, h4, fun hn => ?_⟩
 rcases h5 with h5 | h5
 ·omega
 ·exact h5
theorem ylz {α : Type} (f : α → List Value) (k : Nat) (hf : ∀ x, (f x).length = k) (l : List α) : ∀ (i j : Nat) (x : α) (u : Value), l[i]? = some x → (f x)[j]? = some u → (l.flatMap f)[i * k + j]? = some u := by
 induction l with
 | nil => intro i j x u h; simp at h
 | cons y l ih =>
  intro i j x u h hu
  rw [List.flatMap_cons]
  have hj : j < k := by have := (List.getElem?_eq_some_iff.1 hu).1; rw [hf] at this; exact this
  cases i with
  | zero =>
   simp at h; subst h
   rw [Nat.zero_mul, Nat.zero_add, List.getElem?_append_left (by rw [hf]; exact hj)]; exact hu
  | succ i =>
   rw [Nat.succ_mul, List.getElem?_append_right (by rw [hf]; omega), hf, show i * k + k + j - k = i * k + j by omega]
   exact ih i j x u (by simpa using h) hu
theorem yvk {α : Type} (f : α → List Value) (k : Nat) (hf : ∀ x, (f x).length = k) (l : List α) : (l.flatMap f).length = l.length * k := by
 induction l with
 | nil => simp
 | cons y l ih => rw [List.flatMap_cons, List.length_append, hf, ih, List.length_cons, Nat.succ_mul]; omega
theorem row_alloc_off (W : World) (xs ys : List Value) (e size n cap o : Nat) (hn : n ≤ cap) (hc : cap ≤ 9223372036854775807) (hy : ys.length = n * size) (hxs : ∀ j u, ys[j]? = some u → xs[o + j]? = some u) :
  Row (W.alloc (.cells xs.toArray e)) (.slice (some ⟨W.heap.size, o, none⟩) n cap) size n ys := by
 refine ⟨_, cap, rfl, hn, by unfold maxLen; omega, hy, (fun h => by cases h), .inr ⟨_, o, rfl, by simp, fun j u hu => ?_⟩⟩
 have h1 : (W.alloc (.cells xs.toArray e)).heap[W.heap.size]? = some (.cells xs.toArray e) := by
  show (W.heap.push (.cells xs.toArray e))[W.heap.size]? = _
  rw [Array.getElem?_push, if_pos rfl]
 unfold World.cell?
 simp only [h1]
 have := hxs j u hu
 simpa using this
theorem row_alloc (W : World) (xs : List Value) (e size n : Nat) (hn : n ≤ 9223372036854775807) (hy : xs.length = n * size) :
  Row (W.alloc (.cells xs.toArray e)) (.slice (some ⟨W.heap.size, 0, none⟩) n n) size n xs :=
 row_alloc_off W xs xs e size n n 0 (Nat.le_refl _) hn hy (fun j u h => by rw [Nat.zero_add]; exact h)
def yna (k : IntKind) (w : World) (v : Value) (l : List Int) : Prop := Row w v 1 l.length (l.map (.int k))
theorem yna.below {k : IntKind} {w w' : World} {v : Value} {l : List Int} (h : yna k w v l) (hb : Below w.heap.size w w') : yna k w' v l := Row.below h hb
theorem yna.open {k : IntKind} {w : World} {v : Value} {l : List Int} (h : yna k w v l) : ∃ a cap, v = .slice a l.length cap ∧ l.length ≤ cap ∧ cap ≤ 9223372036854775807 ∧ (a = none → cap = 0) ∧
  (0 < l.length → ∃ g o, a = some ⟨g, o, none⟩ ∧ g < w.heap.size ∧ ∀ i x, l[i]? = some x → w.cell? ⟨g, o + i, none⟩ = some (.int k x)) := by
 obtain ⟨a, cap, hv, h1, h2, h3, h4⟩ := Row.open h
 refine ⟨a, cap, hv, h1, h2, h3, fun hn => ?_⟩
 obtain ⟨g, o, ha, hg, hc⟩ := h4 hn
 exact ⟨g, o, ha, hg, fun i x hx => hc i _ (by rw [List.getElem?_map, hx]; rfl)⟩
end
section
open Go.RowKit
def ynb : List Nat → Nat
 | [] => 0
 | a :: l => max a (ynb l)
def val (f : Int → Nat → Nat) : Ex → Nat
 | .lf t => f t.1 0
 | .un t a => f t.1 (val f a)
 | .bi t a b => f t.1 (max (val f a) (val f b))
 | .tr t a b c => f t.1 (max (val f a) (max (val f b) (val f c)))
def lev (f : Int → Nat → Nat) : List Tm → List Nat
 | [] => []
 | t :: l => f t.1 (ynb ((lev f l).take (ar t.1).toNat)) :: (lev f l).drop (ar t.1).toNat
theorem ytb (f : Int → Nat → Nat) (l : List Tm) : ∀ F, ydy l = some F → lev f l = F.map (val f) := by
 induction l with
 | nil => intro F h; simp [ydy] at h; subst h; rfl
 | cons t l ih =>
  intro F h
  simp only [ydy] at h
  cases hl : ydy l with
  | none => rw [hl] at h; cases h
  | some G =>
   have hG := ih G hl
   rw [hl] at h
   simp only at h
   simp only [lev, hG]
   by_cases a0 : ar t.1 = 0
   ·rw [if_pos a0] at h; cases h
    rw [a0]; simp [ynb, val]
   rw [if_neg a0] at h
   by_cases a1 : ar t.1 = 1
   ·rw [if_pos a1] at h
    match G, h with
    | a :: G, h => cases h; rw [a1]; simp [ynb, val]
   rw [if_neg a1] at h
   by_cases a2 : ar t.1 = 2
   ·rw [if_pos a2] at h
    match G, h with
    | a :: b :: G, h => cases h; rw [a2]; simp [ynb, val]
   rw [if_neg a2] at h
   by_cases a3 : ar t.1 = 3
   ·rw [if_pos a3] at h
    match G, h with
    | a :: b :: c :: G, h => cases h; rw [a3]; simp [ynb, val]
   rw [if_neg a3] at h; cases h
theorem yre (l : List Tm) (t : Tm) (F : List Ex) (h : ydy (t :: l) = some F) : ∃ G, ydy l = some G ∧ 0 ≤ ar t.1 ∧ (ar t.1).toNat ≤ G.length ∧ F.length = G.length - (ar t.1).toNat + 1 := by
 simp only [ydy] at h
 cases hl : ydy l with
 | none => rw [hl] at h; cases h
 | some G =>
  rw [hl] at h
  simp only at h
  by_cases a0 : ar t.1 = 0
  ·rw [if_pos a0] at h; cases h; exact ⟨G, rfl, by omega, by rw [a0]; simp, by rw [a0]; simp⟩
  rw [if_neg a0] at h
  by_cases a1 : ar t.1 = 1
  ·rw [if_pos a1] at h
   match G, h with
   | a :: G, h => cases h; exact ⟨_, rfl, by omega, by rw [a1]; simp, by rw [a1]; simp⟩
  rw [if_neg a1] at h
  by_cases a2 : ar t.1 = 2
  ·rw [if_pos a2] at h
   match G, h with
   | a :: b :: G, h => cases h; exact ⟨_, rfl, by omega, by rw [a2]; simp, by rw [a2]; simp⟩
  rw [if_neg a2] at h
  by_cases a3 : ar t.1 = 3
  ·rw [if_pos a3] at h
   match G, h with
   | a :: b :: c :: G, h => cases h; exact ⟨_, rfl, by omega, by rw [a3]; simp, by rw [a3]; simp⟩
  rw [if_neg a3] at h; cases h
theorem forest_suffix (l : List Tm) : ∀ (k : Nat) (F : List Ex), ydy l = some F → ∃ G, ydy (l.drop k) = some G := by
 induction l with
 | nil => intro k F h; simp [ydy]
 | cons t l ih =>
  intro k F h
  cases k with
  | zero => exact ⟨F, h⟩
  | succ k =>
   obtain ⟨G, hG, _⟩ := yre l t F h
   exact ih k G hG
def ygf : Int → Nat → Nat := fun _ g => g + 1
def ylh : Int → Nat → Nat := fun op g => if yhs op then g + 1 else g
theorem val_depth (E : Ex) : val ygf E = E.dp := by
 induction E with
 | lf t => rfl
 | un t a iha => simp only [val, Ex.dp, iha, ygf]
 | bi t a b iha ihb => simp only [val, Ex.dp, iha, ihb, ygf]
 | tr t a b c iha ihb ihc => simp only [val, Ex.dp, iha, ihb, ihc, ygf]
theorem agg_ar {op : Int} (h : yhs op = true) : ar op = 1 := by
 simp [yhs] at h
 unfold ar; rw [if_neg (by omega), if_neg (by omega), if_pos (by omega)]
theorem yml {op : Int} (h : ar op ≠ 1) : yhs op = false := by
 cases hb : yhs op
 ·rfl
 ·exact absurd (agg_ar hb) h
theorem val_nest (E : Ex) : E.ok → val ylh E = E.ns := by
 induction E with
 | lf t => intro h; have h' : ar t.1 = 0 := h; simp only [val, Ex.ns, ylh, yml (op := t.1) (by omega)]; rfl
 | un t a iha => intro ⟨h, ha⟩; simp only [val, Ex.ns, iha ha, ylh]
 | bi t a b iha ihb => intro ⟨h, ha, hb⟩; simp only [val, Ex.ns, iha ha, ihb hb, ylh, yml (op := t.1) (by omega)]; rfl
 | tr t a b c iha ihb ihc => intro ⟨h, ha, hb, hc⟩; simp only [val, Ex.ns, iha ha, ihb hb, ihc hc, ylh, yml (op := t.1) (by omega)]; rfl
abbrev Open := List (Nat × Bool)
def yge (k : Nat) (b : Bool) : Open → Open
 | [] => if k = 0 then [] else [(k, b)]
 | (x, c) :: S => if k = 0 then yge (x - 1) c S else (k, b) :: (x, c) :: S
def zny : Open → Open
 | [] => []
 | (x, c) :: S => yge (x - 1) c S
def cnt (S : Open) : Nat := (S.filter (·.2)).length
structure Lev where
 S : Open
 d : Nat
 n : Nat
def yjf (s : Lev) (t : Tm) : Lev :=
 ⟨yge (ar t.1).toNat (yhs t.1) s.S, max s.d (s.S.length + 1), max s.n (cnt (((ar t.1).toNat, yhs t.1) :: s.S))⟩
def zqu (s : Lev) (l : List Tm) : Lev := l.foldl yjf s
theorem yqm (s : Lev) (l m : List Tm) : zqu s (l ++ m) = zqu (zqu s l) m := by unfold zqu; rw [List.foldl_append]
theorem yxd (s : Lev) (t : Tm) (l : List Tm) : zqu s (t :: l) = zqu (yjf s t) l := rfl
theorem yku (k : Nat) (b : Bool) (S : Open) (h : k ≠ 0) : yge k b S = (k, b) :: S := by
 cases S with
 | nil => simp [yge, h]
 | cons x S => obtain ⟨x, c⟩ := x; simp [yge, h]
theorem ywm (b : Bool) (S : Open) : yge 0 b S = zny S := by
 cases S with
 | nil => simp [yge, zny]
 | cons x S => obtain ⟨x, c⟩ := x; simp [yge, zny]
theorem zeu (k : Nat) (b : Bool) (S : Open) : zny ((k + 2, b) :: S) = (k + 1, b) :: S := by
 simp only [zny]; rw [yku _ _ _ (by omega)]; rfl
theorem zjx (b : Bool) (S : Open) : zny ((2, b) :: S) = (1, b) :: S := zeu 0 b S
theorem finS_three (b : Bool) (S : Open) : zny ((3, b) :: S) = (2, b) :: S := zeu 1 b S
theorem zcd (b : Bool) (S : Open) : zny ((1, b) :: S) = zny S := by simp only [zny]; exact ywm b S
theorem yvh (k : Nat) (b : Bool) (S : Open) : cnt ((k, b) :: S) = cnt S + (if b then 1 else 0) := by
 unfold cnt; cases b <;> simp
theorem levR_fl (E : Ex) : E.ok → ∀ s : Lev, zqu s E.fl = ⟨zny s.S, max s.d (s.S.length + E.dp), max s.n (cnt s.S + E.ns)⟩ := by
 induction E with
 | lf t =>
  intro h s
  have h' : ar t.1 = 0 := h
  show yjf s t = _
  unfold yjf
  rw [h', yml (op := t.1) (by omega)]
  simp only [Int.toNat_zero, ywm, yvh, Ex.dp, Ex.ns]; rfl
 | un t a iha =>
  intro ⟨h, ha⟩ s
  simp only [Ex.fl, yxd]
  rw [iha ha]
  unfold yjf
  rw [h]
  simp only [Int.toNat_one, yku 1 _ _ (by omega), zcd, List.length_cons, yvh, Ex.dp, Ex.ns]
  congr 1
  ·omega
  ·split <;> omega
 | bi t a b iha ihb =>
  intro ⟨h, ha, hb⟩ s
  simp only [Ex.fl, yxd, yqm]
  rw [iha ha, ihb hb]
  unfold yjf
  rw [h, yml (op := t.1) (by omega)]
  simp only [show (2 : Int).toNat = 2 from rfl, yku 2 _ _ (by omega), zjx, zcd, List.length_cons, yvh, Ex.dp, Ex.ns]
  simp only [Lev.mk.injEq, Bool.false_eq_true, if_false, true_and]
  omega
 | tr t a b c iha ihb ihc =>
  intro ⟨h, ha, hb, hc⟩ s
  simp only [Ex.fl, yxd, yqm]
  rw [iha ha, ihb hb, ihc hc]
  unfold yjf
  rw [h, yml (op := t.1) (by omega)]
  simp only [show (3 : Int).toNat = 3 from rfl, yku 3 _ _ (by omega), finS_three, zjx, zcd, List.length_cons, yvh, Ex.dp, Ex.ns]
  simp only [Lev.mk.injEq, Bool.false_eq_true, if_false, true_and]
  omega
end
section
open Go.RowKit
def zcv (op : Int) : Bool := decide (11 ≤ op) && decide (op ≤ 17)
def yhx (kinds : List Int) (t : Tm) : Int :=
 if t.1 = 2 ∨ t.1 = 3 ∨ t.1 = 10 ∨ t.1 = 15 then 2 else if t.1 = 4 ∨ t.1 = 11 ∨ t.1 = 17 then 3 else if t.1 = 5 ∨ t.1 = 12 then kinds.getD t.2.toNat 0 else 1
def ty1 (op a : Int) : Int :=
 if op = 19 ∨ op = 20 ∨ op = 21 then (if a = 2 then 2 else 0) else if op = 22 then (if a = 2 then 1 else 0) else if op = 23 then (if a = 2 then 3 else 0) else (if a = 1 then 1 else 0)
def ty2 (op a b : Int) : Int :=
 if op = 35 ∨ op = 36 then (if a = b ∧ a ≠ 0 then 2 else 0) else if op = 41 ∨ op = 42 then (if a = 2 ∧ b = 2 then 2 else 0) else if a = 1 ∧ b = 1 then (if 37 ≤ op ∧ op ≤ 40 then 2 else 1) else 0
def ty3 (a b c : Int) : Int := if a = 2 ∧ b = c then b else 0
def ty (kinds : List Int) : Bool → Ex → Int
 | bound, .lf t => if zcv t.1 && !bound then 0 else yhx kinds t
 | bound, .un t a => ty1 t.1 (ty kinds (bound || yhs t.1) a)
 | bound, .bi t a b => ty2 t.1 (ty kinds bound a) (ty kinds bound b)
 | bound, .tr _ a b c => ty3 (ty kinds bound a) (ty kinds bound b) (ty kinds bound c)
theorem zsc (op a : Int) : 0 ≤ ty1 op a ∧ ty1 op a ≤ 3 ∧ (ty1 op a ≠ 0 → a ≠ 0) := by
 unfold ty1; repeat' split
 all_goals omega
theorem zsd (op a b : Int) : 0 ≤ ty2 op a b ∧ ty2 op a b ≤ 3 ∧ (ty2 op a b ≠ 0 → a ≠ 0 ∧ b ≠ 0) := by
 unfold ty2; repeat' split
 all_goals omega
theorem zse (a b c : Int) (h : 0 ≤ b ∧ b ≤ 3) : 0 ≤ ty3 a b c ∧ ty3 a b c ≤ 3 ∧ (ty3 a b c ≠ 0 → a ≠ 0 ∧ b ≠ 0 ∧ c ≠ 0) := by
 unfold ty3; split <;> omega
def yfc (kinds : List Int) : Bool := kinds.all fun k => decide (k = 1) || (decide (k = 2) || decide (k = 3))
theorem leafTy_bd (kinds : List Int) (hk : yfc kinds = true) (t : Tm) : 0 ≤ yhx kinds t ∧ yhx kinds t ≤ 3 := by
 unfold yhx
 repeat' split
 ·omega
 ·omega
 ·rw [List.getD_eq_getElem?_getD]
  cases h : kinds[t.2.toNat]? with
  | none => simp
  | some k =>
   have := List.mem_of_getElem? h
   unfold yfc at hk
   rw [List.all_eq_true] at hk
   have := hk k this
   simp at this
   simp; omega
 ·omega
theorem ty_bd (kinds : List Int) (hk : yfc kinds = true) (E : Ex) : ∀ bound, 0 ≤ ty kinds bound E ∧ ty kinds bound E ≤ 3 := by
 induction E with
 | lf t => intro bound; have := leafTy_bd kinds hk t; simp only [ty]; split <;> omega
 | un t a iha => intro bound; have := zsc t.1 (ty kinds (bound || yhs t.1) a); simp only [ty]; omega
 | bi t a b iha ihb => intro bound; have := zsd t.1 (ty kinds bound a) (ty kinds bound b); simp only [ty]; omega
 | tr t a b c iha ihb ihc => intro bound; have := zse (ty kinds bound a) (ty kinds bound b) (ty kinds bound c) (ihb bound); simp only [ty]; omega
def ofF (l : List Tm) (kinds : List Int) (bound : Bool) : Int × Int :=
 if 6 < kinds.length then (0, 7) else if yfc kinds = false then (0, 7) else if ydc l kinds.length = false then (0, 7) else
 match yex l with
 | none => (0, 7)
 | some E => if ty kinds bound E = 0 then (0, 6) else (ty kinds bound E, 0)
theorem zku (l : List Tm) (kinds : List Int) (bound : Bool) (h : 6 < kinds.length) : ofF l kinds bound = (0, 7) := by unfold ofF; rw [if_pos h]
theorem zgc (l : List Tm) (kinds : List Int) (bound : Bool) (h : yfc kinds = false) : ofF l kinds bound = (0, 7) := by unfold ofF; rw [if_pos h]; split <;> rfl
theorem yxr (l : List Tm) (kinds : List Int) (bound : Bool) (h : ydc l kinds.length = false) : ofF l kinds bound = (0, 7) := by unfold ofF; rw [if_pos h]; split <;> (try split) <;> rfl
theorem zoz (l : List Tm) (kinds : List Int) (bound : Bool) (E : Ex) (h6 : ¬ 6 < kinds.length) (hk : yfc kinds = true) (hv : ydc l kinds.length = true) (hp : yex l = some E) :
  ofF l kinds bound = if ty kinds bound E = 0 then (0, 6) else (ty kinds bound E, 0) := by
 unfold ofF; rw [if_neg h6, if_neg (by simp [hk]), if_neg (by simp [hv]), hp]
theorem ymh {l : List Tm} {vars : Int} (h : ydc l vars = true) : ∃ E, yex l = some E ∧ E.ok ∧ E.fl = l ∧ l.length ≤ 200 ∧ l.all (yqc vars) = true ∧ E.dp ≤ 24 ∧ E.ns ≤ 2 := by
 unfold ydc at h
 cases hp : yex l with
 | none => rw [hp] at h; cases h
 | some E =>
  rw [hp] at h
  simp only [Bool.and_eq_true, decide_eq_true_eq] at h
  obtain ⟨h1, h2⟩ := ygk hp
  exact ⟨E, rfl, h1, h2, h.1, h.2.1, h.2.2.1, h.2.2.2⟩
end
section
open Go.RowKit
set_option maxHeartbeats 400000 in
theorem ygo (op : Int) (w : World) : Calls Tryz.prog 237 #[.int .i64 op] w fun e w' => e = .returned (.int .i64 (ar op)) ∧ w = w' := by
 go_enter Tryz.func237, Tryz.ntmps237
 go_wp2
 all_goals go_ret
 all_goals exact ⟨ybh (by unfold ar; (repeat' split) <;> omega), rfl⟩
set_option maxHeartbeats 400000 in
theorem yii (op : Int) (w : World) : Calls Tryz.prog 241 #[.int .i64 op] w fun e w' => e = .returned (.bool (yhs op)) ∧ w = w' := by
 go_enter Tryz.func241, Tryz.ntmps241
 go_wp2
 all_goals go_ret
 all_goals exact ⟨yab (by rw [Bool.eq_iff_iff]; simp [yhs]; omega), rfl⟩
set_option maxHeartbeats 400000 in
theorem near_any (op : Int) (w : World) : Calls Tryz.prog 242 #[.int .i64 op] w fun e w' => e = .returned (.bool (zcv op)) ∧ w = w' := by
 go_enter Tryz.func242, Tryz.ntmps242
 go_wp2
 all_goals go_ret
 all_goals exact ⟨yab (by rw [Bool.eq_iff_iff]; simp [zcv]; omega), rfl⟩
set_option maxHeartbeats 400000 in
theorem yea (op : Int) (w : World) : Calls Tryz.prog 262 #[.int .i64 op] w fun e w' => e = .returned (.int .i64 (ar op)) ∧ w = w' := by
 go_enter Tryz.func262, Tryz.ntmps262
 go_wp2
 all_goals go_ret
 all_goals refine ⟨ybh ?_, rfl⟩
 all_goals try simp only [beq_iff_eq, beq_eq_false_iff_ne, ne_eq] at *
 all_goals (unfold ar; (repeat' split) <;> omega)
set_option maxHeartbeats 400000 in
theorem ykn (op : Int) (w : World) : Calls Tryz.prog 264 #[.int .i64 op] w fun e w' => e = .returned (.bool (yhs op)) ∧ w = w' := by
 go_enter Tryz.func264, Tryz.ntmps264
 go_wp2
 all_goals go_ret
 all_goals exact ⟨yab (by rw [Bool.eq_iff_iff]; simp [yhs]; omega), rfl⟩
def yde (w : World) (v : Value) (l : List Tm) : Prop := Row w v 2 l.length (l.flatMap fun t => [.int .i64 t.1, .int .i64 t.2])
theorem yde.below {w w' : World} {v : Value} {l : List Tm} (h : yde w v l) (hb : Below w.heap.size w w') : yde w' v l := Row.below h hb
theorem yde.open {w : World} {v : Value} {l : List Tm} (h : yde w v l) : ∃ a cap, v = .slice a l.length cap ∧ l.length ≤ cap ∧ cap ≤ 9223372036854775807 ∧
  (0 < l.length → ∃ g o, a = some ⟨g, o, none⟩ ∧ g < w.heap.size ∧ ∀ i t, l[i]? = some t → w.cell? ⟨g, o + i * 2, none⟩ = some (.int .i64 t.1) ∧ w.cell? ⟨g, o + i * 2 + 1, none⟩ = some (.int .i64 t.2)) := by
 obtain ⟨a, cap, hv, h1, h2, h3, h4⟩ := Row.open h
 refine ⟨a, cap, hv, h1, h2, fun hn => ?_⟩
 obtain ⟨g, o, ha, hg, hc⟩ := h4 hn
 exact ⟨g, o, ha, hg, fun i t ht => ⟨hc _ _ (ylz _ 2 (fun _ => rfl) l i 0 t _ ht rfl), hc _ _ (ylz _ 2 (fun _ => rfl) l i 1 t _ ht rfl)⟩⟩
def ype (w k : Nat) (l : List Tm) : Int := match zhh w (l.drop k) with | none => -1 | some n => (k : Int) + n
theorem yrb (m k : Nat) (l : List Tm) (hm : 1 ≤ m) (h : l.length ≤ k) : ype m k l = -1 := by
 obtain ⟨m, rfl⟩ : ∃ q, m = q + 1 := ⟨m - 1, by omega⟩
 unfold ype; rw [List.drop_eq_nil_of_le h, endN_nil]
theorem zjq (m k : Nat) (l : List Tm) (hm : 1 ≤ m) (h : k < l.length) (hn : ar l[k].1 < 0) : ype m k l = -1 := by
 obtain ⟨m, rfl⟩ : ∃ q, m = q + 1 := ⟨m - 1, by omega⟩
 unfold ype; rw [List.drop_eq_getElem_cons h, zjp _ _ _ hn]
theorem ywp (m k : Nat) (l : List Tm) (hm : 1 ≤ m) (h : k < l.length) (hn : ¬ ar l[k].1 < 0) : ype m k l = ype (m + (ar l[k].1).toNat - 1) (k + 1) l := by
 obtain ⟨m, rfl⟩ : ∃ q, m = q + 1 := ⟨m - 1, by omega⟩
 unfold ype; rw [List.drop_eq_getElem_cons h, ykw _ _ _ hn, show m + 1 + (ar l[k].1).toNat - 1 = m + (ar l[k].1).toNat by omega]
 cases zhh (m + (ar l[k].1).toNat) (l.drop (k + 1)) with
 | none => rfl
 | some n => simp; omega
theorem zeo (m k : Nat) (l : List Tm) (hm : 1 ≤ m) (h : k < l.length) (hn : ¬ ar l[k].1 < 0) (hz : (m : Int) + (ar l[k].1 - 1) = 0) : ype m k l = k + 1 := by
 rw [ywp m k l hm h hn, show m + (ar l[k].1).toNat - 1 = 0 by omega]
 unfold ype; rw [ykx]; simp
set_option maxHeartbeats 1000000 in
theorem ytz (t : Tm) (vars : Int) (w : World) : Calls Tryz.prog 198 #[.agg #[.int .i64 t.1, .int .i64 t.2], .int .i64 vars] w fun e w' => e = .returned (.bool (yqc vars t)) ∧ Below w.heap.size w w' := by
 obtain ⟨op, x⟩ := t
 have hcases : (op == 1) = true ∨ (op == 1) = false ∧ ((op == 5) = true ∨ (op == 5) = false ∧ ((op == 12) = true ∨ (op == 12) = false)) := by
  cases (op == 1) <;> cases (op == 5) <;> cases (op == 12) <;> simp
 rcases hcases with q0 | ⟨q0, q1 | ⟨q1, q2 | q2⟩⟩
 all_goals
  go_enter Tryz.func198, Tryz.ntmps198
  go_wp2
  all_goals go_ret
  all_goals refine ⟨yab ?_, (Below.refl _ _).alloc (Nat.le_refl _) _⟩
  all_goals simp only [beq_iff_eq, beq_eq_false_iff_ne, ne_eq] at *
  all_goals rw [Bool.eq_iff_iff]
  all_goals simp [yqc, *]
  all_goals try omega
set_option maxHeartbeats 1000000 in
theorem yry (t : Tm) (vars : Int) (w : World) : Calls Tryz.prog 310 #[.agg #[.int .i64 t.1, .int .i64 t.2], .int .i64 vars] w fun e w' => e = .returned (.bool (yqc vars t)) ∧ Below w.heap.size w w' := by
 obtain ⟨op, x⟩ := t
 have hcases : (op == 1) = true ∨ (op == 1) = false ∧ ((op == 5) = true ∨ (op == 5) = false ∧ ((op == 12) = true ∨ (op == 12) = false)) := by
  cases (op == 1) <;> cases (op == 5) <;> cases (op == 12) <;> simp
 rcases hcases with q0 | ⟨q0, q1 | ⟨q1, q2 | q2⟩⟩
 all_goals
  go_enter Tryz.func310, Tryz.ntmps310
  go_wp2
  all_goals go_ret
  all_goals refine ⟨yab ?_, (Below.refl _ _).alloc (Nat.le_refl _) _⟩
  all_goals simp only [beq_iff_eq, beq_eq_false_iff_ne, ne_eq] at *
  all_goals rw [Bool.eq_iff_iff]
  all_goals simp [yqc, *]
  all_goals try omega
set_option maxHeartbeats 1000000 in
theorem end_any_in (v : Value) (l : List Tm) (at_ : Nat) (w : World) (hl : l.length ≤ 1000) (hv : Hid (yde w v l)) (ha : at_ < l.length) :
  Calls Tryz.prog 197 #[v, .int .i64 at_] w fun e w' => e = .returned (.int .i64 (ype 1 at_ l)) ∧ w = w' := by
 obtain ⟨a, cap, rfl, h1, h2, h3⟩ := hv.out.open
 obtain ⟨g, o, rfl, hg, hc⟩ := h3 (by omega)
 have HC := Lib.hid hc
 have b1 : decide ((at_ : Int) < 0) = false := by simp
 have b2 : decide (l.length ≤ at_) = false := by simp; omega
 clear hc h3
 go_enter Tryz.func197, Tryz.ntmps197
 go_wp2
 go_loop [1, 5, 6] (fun i x _ => ∃ k m : Nat, k ≤ l.length ∧ 1 ≤ m ∧ m ≤ 2 * k + 1 ∧ i = .int .i64 k ∧ x = .int .i64 m ∧ Hid (ype 1 at_ l = ype m k l)) (fun i _ _ => l.length - (intOf i).toNat)
 case atStart => exact ⟨at_, 1, by omega, by omega, by omega, rfl, rfl, rfl⟩
 case round =>
  obtain ⟨k, m, hk, hm1, hm2, rfl, rfl, he⟩ := hrel
  by_cases hlt : k < l.length
  ·obtain ⟨c0, c1⟩ := HC.out k _ (List.getElem?_eq_getElem hlt)
   have hb := zea l[k].1
   have hb1 := hb.1
   have hb2 := hb.2
   clear hb
   have HD := Lib.hid (List.drop_eq_getElem_cons hlt)
   by_cases hneg : ar l[k].1 < 0
   ·go_wp2_with (go_at_call 237; refine (ygo _ _).mono ?_; rintro e w' ⟨rfl, rfl⟩)
    go_ret
    exact ⟨ybh (by rw [he.out, zjq m k l hm1 hlt hneg]), rfl⟩
   ·by_cases hz : (m : Int) + (ar l[k].1 - 1) = 0
    ·have hz' : ((m : Int) + (ar l[k].1 - 1) == 0) = true := by simp; omega
     have HZ := Lib.hid hz
     clear hz
     go_wp2_with (go_at_call 237; refine (ygo _ _).mono ?_; rintro e w' ⟨rfl, rfl⟩)
     go_ret
     exact ⟨ybh (by rw [he.out, zeo m k l hm1 hlt (by omega) HZ.out]), rfl⟩
    ·have hz' : ((m : Int) + (ar l[k].1 - 1) == 0) = false := by simp; omega
     go_wp2_with (go_at_call 237; refine (ygo _ _).mono ?_; rintro e w' ⟨rfl, rfl⟩)
     exact ⟨⟨k + 1, m + (ar l[k].1).toNat - 1, by omega, by omega, by omega, by go_num, by congr 1; omega, he.out.trans (ywp m k l hm1 hlt (by omega))⟩, by simp [intOf]; omega⟩
  ·go_wp2
   go_ret
   exact ⟨ybh (by rw [he.out, yrb m k l hm1 (by omega)]), rfl⟩
set_option maxHeartbeats 1000000 in
theorem rend_any_in (v : Value) (l : List Tm) (at_ : Nat) (w : World) (hl : l.length ≤ 1000) (hv : Hid (yde w v l)) (ha : at_ < l.length) :
  Calls Tryz.prog 294 #[v, .int .i64 at_] w fun e w' => e = .returned (.int .i64 (ype 1 at_ l)) ∧ w = w' := by
 obtain ⟨a, cap, rfl, h1, h2, h3⟩ := hv.out.open
 obtain ⟨g, o, rfl, hg, hc⟩ := h3 (by omega)
 have HC := Lib.hid hc
 have b1 : decide ((at_ : Int) < 0) = false := by simp
 have b2 : decide (l.length ≤ at_) = false := by simp; omega
 clear hc h3
 go_enter Tryz.func294, Tryz.ntmps294
 go_wp2
 go_loop [5, 6, 7] (fun x i _ => ∃ k m : Nat, k ≤ l.length ∧ 1 ≤ m ∧ m ≤ 2 * k + 1 ∧ i = .int .i64 k ∧ x = .int .i64 m ∧ Hid (ype 1 at_ l = ype m k l)) (fun _ i _ => l.length - (intOf i).toNat)
 case atStart => exact ⟨at_, 1, by omega, by omega, by omega, rfl, rfl, rfl⟩
 case round =>
  obtain ⟨k, m, hk, hm1, hm2, rfl, rfl, he⟩ := hrel
  by_cases hlt : k < l.length
  ·obtain ⟨c0, c1⟩ := HC.out k _ (List.getElem?_eq_getElem hlt)
   have hb := zea l[k].1
   have hb1 := hb.1
   have hb2 := hb.2
   clear hb
   have HD := Lib.hid (List.drop_eq_getElem_cons hlt)
   by_cases hneg : ar l[k].1 < 0
   ·go_wp2_with (go_at_call 262; refine (yea _ _).mono ?_; rintro e w' ⟨rfl, rfl⟩)
    go_ret
    exact ⟨ybh (by rw [he.out, zjq m k l hm1 hlt hneg]), rfl⟩
   ·by_cases hz : (m : Int) + (ar l[k].1 - 1) = 0
    ·have hz' : ((m : Int) + (ar l[k].1 - 1) == 0) = true := by simp; omega
     have HZ := Lib.hid hz
     clear hz
     go_wp2_with (go_at_call 262; refine (yea _ _).mono ?_; rintro e w' ⟨rfl, rfl⟩)
     go_ret
     exact ⟨ybh (by rw [he.out, zeo m k l hm1 hlt (by omega) HZ.out]), rfl⟩
    ·have hz' : ((m : Int) + (ar l[k].1 - 1) == 0) = false := by simp; omega
     go_wp2_with (go_at_call 262; refine (yea _ _).mono ?_; rintro e w' ⟨rfl, rfl⟩)
     exact ⟨⟨k + 1, m + (ar l[k].1).toNat - 1, by omega, by omega, by omega, by go_num, by congr 1; omega, he.out.trans (ywp m k l hm1 hlt (by omega))⟩, by simp [intOf]; omega⟩
  ·go_wp2
   go_ret
   exact ⟨ybh (by rw [he.out, yrb m k l hm1 (by omega)]), rfl⟩
end
section
open Go.ChangeShapes Go.WideShapes Go.RowKit
def Rd {H : Type} (enc : TypeId × Value → H) (P : Program) (w : World) (t : TypeId) (cs : List Value) : Prop := ∃ fuel x, DataW.trod enc P w 0 (fun _ => true) true fuel t cs = some x
section
variable {H : Type} {enc : TypeId × Value → H} {P : Program} {w : World} {t : TypeId} {cs : List Value}
theorem rd_int {k : IntKind} (ht : P.underlying t = some (.int k)) (h : Rd enc P w t cs) : ∃ n, cs = [.int k n] ∧ (Lit.int k n).wf = true := by
 obtain ⟨fuel, x, h⟩ := h
 obtain ⟨n, h1, _, h2⟩ := DataW.trod_int ht h
 exact ⟨n, h1, h2⟩
theorem wf64 {n : Int} (h : (Lit.int .i64 n).wf = true) : -9223372036854775808 ≤ n ∧ n ≤ 9223372036854775807 := by
 simp only [Lit.wf, Bool.and_eq_true, decide_eq_true_eq] at h
 have e1 : IntKind.i64.min = -9223372036854775808 := by decide
 have e2 : IntKind.i64.max = 9223372036854775807 := by decide
 omega
theorem ygs (ht : P.underlying t = some (.int .i64)) (h : Rd enc P w t cs) : ∃ n, cs = [.int .i64 n] ∧ -9223372036854775808 ≤ n ∧ n ≤ 9223372036854775807 := by
 obtain ⟨n, h1, h2⟩ := rd_int ht h
 exact ⟨n, h1, wf64 h2⟩
theorem yxz (ht : P.underlying t = some .string) (h : Rd enc P w t cs) : ∃ s : ByteArray, cs = [.string s] ∧ s.size ≤ maxLen := by
 obtain ⟨fuel, x, h⟩ := h
 obtain ⟨s, h1, _, h2⟩ := DataW.trod_string ht h
 exact ⟨s, h1, h2⟩
theorem yjk {fs : Array Field} (ht : P.underlying t = some (.struct fs)) (h : Rd enc P w t cs) :
  cs.length = P.cellsOf t ∧ ∀ (i : Nat) (f : Field), fs[i]? = some f → Rd enc P w f.type ((cs.drop f.offset).take (P.cellsOf f.type)) := by
 obtain ⟨fuel, x, h⟩ := h
 obtain ⟨xs, n, _, _, h1, h2, h3⟩ := DataW.trod_struct ht h
 refine ⟨h1, fun i f hf => ?_⟩
 have hi : i < xs.length := by rw [h2]; exact (Array.getElem?_eq_some_iff.1 hf).1
 exact ⟨n, xs[i], by rw [h3 i f hf, List.getElem?_eq_getElem hi]⟩
theorem rd_slice {e : TypeId} (ht : P.underlying t = some (.slice e)) (h : Rd enc P w t cs) :
  cs = [.slice none 0 0] ∨ ∃ (a : Addr) (len cap : Nat), cs = [.slice (some a) len cap] ∧ len ≤ cap ∧ cap ≤ maxLen ∧
   ∀ i, i < len → ∃ cs', cs'.length = P.cellsOf e ∧ (∀ j, j < P.cellsOf e → w.cell? ((a.add (i * P.cellsOf e)).add j) = cs'[j]?) ∧ Rd enc P w e cs' := by
 obtain ⟨fuel, x, h⟩ := h
 rcases Deep.open_slice ht h with ⟨h0, _⟩ | ⟨a, len, cap, m, n, D, Pl, h1, _, h2, h3, h4, _, h5⟩
 ·exact .inl h0
 ·refine .inr ⟨a, len, cap, h1, h2, h3, fun i hi => ?_⟩
  have hm : m = cap := by simpa using h4
  obtain ⟨cs', h6, h7⟩ := h5 i (by omega)
  obtain ⟨_, h8, h9⟩ := World.cells?_some h6
  exact ⟨cs', h8, h9, ⟨n, _, h7⟩⟩
end
def Seq {α : Type} (R : List Value → α → Prop) (size : Nat) (w : World) (v : Value) (l : List α) : Prop :=
 ∃ xs, Row w v size l.length xs ∧ ∀ i x, l[i]? = some x → R ((xs.drop (i * size)).take size) x
theorem Seq.below {α : Type} {R R' : List Value → α → Prop} {size : Nat} {w w' : World} {v : Value} {l : List α} (h : Seq R size w v l) (hb : Below w.heap.size w w') (hR : ∀ cs x, R cs x → R' cs x) : Seq R' size w' v l := by
 obtain ⟨xs, h1, h2⟩ := h
 exact ⟨xs, h1.below hb, fun i x hx => hR _ _ (h2 i x hx)⟩
theorem Seq.imp {α : Type} {R R' : List Value → α → Prop} {size : Nat} {w : World} {v : Value} {l : List α} (h : Seq R size w v l) (hR : ∀ cs x, x ∈ l → R cs x → R' cs x) : Seq R' size w v l := by
 obtain ⟨xs, h1, h2⟩ := h
 exact ⟨xs, h1, fun i x hx => hR _ _ (List.mem_of_getElem? hx) (h2 i x hx)⟩
theorem flat_chunk (f : Nat → List Value) (size : Nat) (hf : ∀ i, (f i).length = size) (n i : Nat) (hi : i < n) : (((List.range n).flatMap f).drop (i * size)).take size = f i := by
 apply List.ext_getElem?
 intro j
 rw [List.getElem?_take]
 split
 ·rename_i hj
  rw [List.getElem?_drop]
  obtain ⟨u, hu⟩ : ∃ u, (f i)[j]? = some u := ⟨_, List.getElem?_eq_getElem (by rw [hf]; exact hj)⟩
  rw [hu]
  exact ylz f size hf (List.range n) i j i u (by rw [List.getElem?_range hi]) hu
 ·rename_i hj
  rw [List.getElem?_eq_none (by rw [hf]; omega)]
theorem yka {H : Type} {enc : TypeId × Value → H} {P : Program} {w : World} {t e : TypeId} {cs : List Value} {α : Type} {R : List Value → α → Prop} {size : Nat} (ht : P.underlying t = some (.slice e)) (hs : P.cellsOf e = size) (h0 : 0 < size)
  (hR : ∀ cs, Rd enc P w e cs → ∃ x, R cs x) (h : Rd enc P w t cs) : ∃ v l, cs = [v] ∧ Seq R size w v l := by
 rcases rd_slice ht h with rfl | ⟨a, len, cap, rfl, h1, h2, h3⟩
 ·exact ⟨_, [], rfl, [], row_nil w size, fun i x hx => by simp at hx⟩
 ·rw [hs] at h3
  by_cases hl : len = 0
  ·subst hl
   exact ⟨_, [], rfl, [], ⟨_, cap, rfl, by simp, h2, by simp, (fun h => by cases h), .inl rfl⟩, fun i x hx => by simp at hx⟩
  have hch : ∀ i : Nat, ∃ q : List Value, q.length = size ∧ (i < len → (∀ j, j < size → w.cell? ((a.add (i * size)).add j) = q[j]?) ∧ ∃ x, R q x) := by
   intro i
   by_cases hi : i < len
   ·obtain ⟨c, c1, c2, c3⟩ := h3 i hi
    exact ⟨c, c1, fun _ => ⟨c2, hR c c3⟩⟩
   ·exact ⟨List.replicate size undef, by simp, fun h => absurd h hi⟩
  obtain ⟨f, hf⟩ := Classical.axiomOfChoice hch
  obtain ⟨x0, _⟩ := ((hf 0).2 (by omega)).2
  have hx : ∀ i : Nat, ∃ x : α, i < len → R (f i) x := by
   intro i
   by_cases hi : i < len
   ·obtain ⟨x, hx⟩ := ((hf i).2 hi).2
    exact ⟨x, fun _ => hx⟩
   ·exact ⟨x0, fun h => absurd h hi⟩
  obtain ⟨g, hg⟩ := Classical.axiomOfChoice hx
  have hc0 : w.cell? a = (f 0)[0]? := by
   have := ((hf 0).2 (by omega)).1 0 h0
   simpa [Addr.add] using this
  obtain ⟨u0, hu0⟩ : ∃ u, (f 0)[0]? = some u := ⟨_, List.getElem?_eq_getElem (by rw [(hf 0).1]; exact h0)⟩
  rw [hu0] at hc0
  obtain ⟨b, o, sp⟩ := a
  have hsp : sp = none := by
   unfold World.cell? at hc0
   split at hc0
   ·split at hc0
    ·cases hc0
    ·rename_i hsp; simpa using hsp
   ·cases hc0
  subst hsp
  have hb : b < w.heap.size := by
   rcases Nat.lt_or_ge b w.heap.size with h | h
   ·exact h
   ·unfold World.cell? at hc0; simp [Array.getElem?_eq_none h] at hc0
  have hadd : ∀ n : Nat, (⟨b, o, none⟩ : Addr).add n = ⟨b, o + n, none⟩ := by intro n; unfold Addr.add; split <;> simp_all
  refine ⟨_, (List.range len).map g, rfl, (List.range len).flatMap f, ?_, ?_⟩
  ·rw [List.length_map, List.length_range]
   refine ⟨_, cap, rfl, h1, h2, by rw [yvk f size (fun i => (hf i).1), List.length_range], (fun h => by cases h), .inr ⟨b, o, rfl, hb, fun j u hu => ?_⟩⟩
   have hj : j < len * size := by
    have := (List.getElem?_eq_some_iff.1 hu).1
    rw [yvk f size (fun i => (hf i).1), List.length_range] at this; exact this
   have hi : j / size < len := (Nat.div_lt_iff_lt_mul h0).2 hj
   have hr : j % size < size := Nat.mod_lt _ h0
   have hjd : j / size * size + j % size = j := by rw [Nat.mul_comm]; exact Nat.div_add_mod j size
   have c := ((hf (j / size)).2 hi).1 (j % size) hr
   obtain ⟨u', hu'⟩ : ∃ u, (f (j / size))[j % size]? = some u := ⟨_, List.getElem?_eq_getElem (by rw [(hf _).1]; exact hr)⟩
   have e1 := ylz f size (fun i => (hf i).1) (List.range len) (j / size) (j % size) (j / size) u' (by rw [List.getElem?_range hi]) hu'
   rw [hjd, hu] at e1
   cases e1
   rw [hadd] at c
   have h5 : (⟨b, o + j / size * size, none⟩ : Addr).add (j % size) = ⟨b, o + j, none⟩ := by
    have : (⟨b, o + j / size * size, none⟩ : Addr).add (j % size) = ⟨b, o + j / size * size + j % size, none⟩ := by unfold Addr.add; split <;> simp_all
    rw [this, Nat.add_assoc, hjd]
   rw [h5] at c
   rw [c, hu']
  ·intro i x hx
   have hi : i < len := by
    have := (List.getElem?_eq_some_iff.1 hx).1
    simpa using this
   rw [List.getElem?_map, List.getElem?_range hi] at hx
   simp at hx
   subst hx
   rw [flat_chunk f size (fun i => (hf i).1) len i hi]
   exact hg i hi
theorem ysc {α : Type} {R : List Value → α → Prop} {size : Nat} {w : World} {v : Value} {l : List α} (f : α → List Value) (hf : ∀ x, (f x).length = size) (h0 : 0 < size) (h : Seq R size w v l) (hR : ∀ cs x, R cs x → cs = f x) : Row w v size l.length (l.flatMap f) := by
 obtain ⟨xs, ⟨a, cap, hv, h1, h2, h3, h4, h5⟩, h6⟩ := h
 refine ⟨a, cap, hv, h1, h2, yvk f size hf l, h4, ?_⟩
 rcases h5 with h5 | ⟨g, o, ha, hg, hc⟩
 ·exact .inl h5
 ·refine .inr ⟨g, o, ha, hg, fun j u hu => hc j u ?_⟩
  have hj : j < l.length * size := by
   have := (List.getElem?_eq_some_iff.1 hu).1
   rw [yvk f size hf] at this; exact this
  have hi : j / size < l.length := (Nat.div_lt_iff_lt_mul h0).2 hj
  have hr : j % size < size := Nat.mod_lt _ h0
  have hjd : j / size * size + j % size = j := by rw [Nat.mul_comm]; exact Nat.div_add_mod j size
  have e1 := ylz f size hf l (j / size) (j % size) l[j / size] ((f l[j / size])[j % size]'(by rw [hf]; exact hr)) (List.getElem?_eq_getElem hi) (List.getElem?_eq_getElem (by rw [hf]; exact hr))
  rw [hjd, hu] at e1
  cases e1
  have e2 := hR _ _ (h6 (j / size) _ (List.getElem?_eq_getElem hi))
  have e3 : ((xs.drop (j / size * size)).take size)[j % size]? = some ((f l[j / size])[j % size]'(by rw [hf]; exact hr)) := by rw [e2]; exact List.getElem?_eq_getElem (by rw [hf]; exact hr)
  rw [List.getElem?_take, if_pos hr, List.getElem?_drop, hjd] at e3
  exact e3
theorem ztc {H : Type} {enc : TypeId × Value → H} {P : Program} {w : World} {t : TypeId} {v : Value} {d : DataW H} {ps : List MemPlace} (h : DataW.Trod enc P w 0 (fun _ => true) true t v d ps) : Rd enc P w t v.cells.toList := by
 obtain ⟨fuel, h⟩ := h
 exact ⟨fuel, _, h⟩
theorem open_seq_arg {H : Type} {enc : TypeId × Value → H} {P : Program} {w : World} {base : Nat} {t e : TypeId} {v : Value} {d : DataW H} {ps : List MemPlace} {α : Type} {R : List Value → α → Prop} {size : Nat} (ht : P.underlying t = some (.slice e)) (hs : P.cellsOf e = size) (h0 : 0 < size)
  (hR : ∀ cs, Rd enc P w e cs → ∃ x, R cs x) (hv : Value.okWide P w .any base t v) (h : DataW.Trod enc P w 0 (fun _ => true) true t v d ps) : ∃ l, Seq R size w v l := by
 obtain ⟨a, len, cap, rfl⟩ := okWide_slice ht hv
 obtain ⟨v', l, h1, h2⟩ := yka ht hs h0 hR (ztc h)
 simp [Value.cells] at h1
 subst h1
 exact ⟨l, h2⟩
theorem zjy (l : List Int) : l.flatMap (fun x => [Value.int .i64 x]) = l.map (.int .i64) := by
 induction l with
 | nil => rfl
 | cons a l ih => rw [List.flatMap_cons, ih]; rfl
def ysh (n : Int) : Prop := -9223372036854775808 ≤ n ∧ n ≤ 9223372036854775807
end
set_option maxRecDepth 100000
section
open Go.ChangeShapes Go.WideShapes Go.RowKit
theorem zbt : Tryz.prog.cellsOf 3 = 1 := by kernel_rfl
theorem zei : Tryz.prog.cellsOf 167 = 2 := by kernel_rfl
section
variable {H : Type} {enc : TypeId × Value → H} {w : World} {cs : List Value} {v : Value} {base : Nat} {d : DataW H} {ps : List MemPlace}
def ywd (t : Tm) : Prop := ysh t.1 ∧ ysh t.2
theorem rd_term (h : Rd enc Tryz.prog w 167 cs) : ∃ t : Tm, cs = [.int .i64 t.1, .int .i64 t.2] ∧ ywd t := by
 obtain ⟨h1, h2⟩ := yjk Tryz.underlying167 h
 rw [zei] at h1
 match cs, h1 with
 | [a, b], _ =>
  have g0 := h2 0 _ rfl
  have g1 := h2 1 _ rfl
  simp [zbt] at g0 g1
  obtain ⟨x, hx, hx'⟩ := ygs Tryz.underlying3 g0
  obtain ⟨y, hy, hy'⟩ := ygs Tryz.underlying3 g1
  simp at hx hy
  exact ⟨(x, y), by simp [hx, hy], hx', hy'⟩
theorem terms_of_seq {l : List Tm} (h : Seq (fun cs (t : Tm) => cs = [.int .i64 t.1, .int .i64 t.2] ∧ ywd t) 2 w v l) : yde w v l ∧ ∀ t ∈ l, ywd t := by
 refine ⟨ysc (fun t : Tm => [.int .i64 t.1, .int .i64 t.2]) (fun _ => rfl) (by omega) h (fun cs x h => h.1), fun x hx => ?_⟩
 obtain ⟨xs, _, h2⟩ := h
 obtain ⟨i, hi⟩ := List.getElem?_of_mem hx
 exact (h2 i x hi).2
theorem zky (h : Rd enc Tryz.prog w 83 cs) : ∃ v l, cs = [v] ∧ yde w v l ∧ ∀ t ∈ l, ywd t := by
 obtain ⟨v, l, h1, h2⟩ := yka (R := fun cs (t : Tm) => cs = [.int .i64 t.1, .int .i64 t.2] ∧ ywd t) Tryz.underlying83 zei (Nat.succ_pos 1) (fun cs h => rd_term h) h
 exact ⟨v, l, h1, terms_of_seq h2⟩
end
end
section
open Go.ChangeShapes Go.WideShapes Go.RowKit
structure VarD where
 name : ByteArray
 kind : Int
 lo : Int
 hi : Int
 perNode : Int
 perID : Int
structure SetD where
 var : Int
 val : List Tm
structure RuleD where
 name : ByteArray
 guard : List Tm
 sets : List SetD
structure ProgD where
 name : ByteArray
 vars : List VarD
 rules : List RuleD
def ykf (x : VarD) : List Value := [.string x.name, .int .i64 x.kind, .int .i64 x.lo, .int .i64 x.hi, .int .i64 x.perNode, .int .i64 x.perID]
def ykj (w : World) (cs : List Value) (s : SetD) : Prop := ∃ v, cs = [.int .i64 s.var, v] ∧ yde w v s.val
def ywc (w : World) (cs : List Value) (r : RuleD) : Prop := ∃ gv sv, cs = [.string r.name, gv, sv] ∧ yde w gv r.guard ∧ Seq (ykj w) 2 w sv r.sets
def ytx (w : World) (v : Value) (l : List VarD) : Prop := Row w v 6 l.length (l.flatMap ykf)
def ypz (w : World) (v : Value) (l : List RuleD) : Prop := Seq (ywc w) 3 w v l
def ygy (w : World) (v : Value) (p : ProgD) : Prop := ∃ vv rv, v = .agg #[.string p.name, vv, rv] ∧ ytx w vv p.vars ∧ ypz w rv p.rules
def zqn (x : VarD) : Prop := x.name.size ≤ 9223372036854775807 ∧ ysh x.kind ∧ ysh x.lo ∧ ysh x.hi ∧ ysh x.perNode ∧ ysh x.perID
def zsl (s : SetD) : Prop := ysh s.var ∧ ∀ t ∈ s.val, ywd t
def yzh (r : RuleD) : Prop := r.name.size ≤ 9223372036854775807 ∧ (∀ t ∈ r.guard, ywd t) ∧ ∀ s ∈ r.sets, zsl s
def ygx (p : ProgD) : Prop := p.name.size ≤ 9223372036854775807 ∧ (∀ x ∈ p.vars, zqn x) ∧ ∀ r ∈ p.rules, yzh r
theorem ykj.below {w w' : World} {cs : List Value} {s : SetD} (hb : Below w.heap.size w w') (h : ykj w cs s) : ykj w' cs s := by
 obtain ⟨v, h1, h2⟩ := h
 exact ⟨v, h1, h2.below hb⟩
theorem ywc.below {w w' : World} {cs : List Value} {r : RuleD} (hb : Below w.heap.size w w') (h : ywc w cs r) : ywc w' cs r := by
 obtain ⟨gv, sv, h1, h2, h3⟩ := h
 exact ⟨gv, sv, h1, h2.below hb, h3.below hb fun _ _ => ykj.below hb⟩
theorem ytx.below {w w' : World} {v : Value} {l : List VarD} (h : ytx w v l) (hb : Below w.heap.size w w') : ytx w' v l := Row.below h hb
theorem ypz.below {w w' : World} {v : Value} {l : List RuleD} (h : ypz w v l) (hb : Below w.heap.size w w') : ypz w' v l := Seq.below h hb fun _ _ => ywc.below hb
theorem ygy.below {w w' : World} {v : Value} {p : ProgD} (h : ygy w v p) (hb : Below w.heap.size w w') : ygy w' v p := by
 obtain ⟨vv, rv, h1, h2, h3⟩ := h
 exact ⟨vv, rv, h1, h2.below hb, h3.below hb⟩
theorem Seq.open {α : Type} {R : List Value → α → Prop} {size : Nat} {w : World} {v : Value} {l : List α} (h : Seq R size w v l) : ∃ a cap, v = .slice a l.length cap ∧ l.length ≤ cap ∧ cap ≤ 9223372036854775807 ∧
  (0 < l.length → ∃ g o, a = some ⟨g, o, none⟩ ∧ g < w.heap.size ∧ ∀ i x, l[i]? = some x → ∃ cs, cs.length = size ∧ R cs x ∧ ∀ j u, cs[j]? = some u → w.cell? ⟨g, o + i * size + j, none⟩ = some u) := by
 obtain ⟨xs, h1, h2⟩ := h
 have hlen : xs.length = l.length * size := by obtain ⟨_, _, _, _, _, h, _⟩ := h1; exact h
 obtain ⟨a, cap, hv, h3, h4, _, h5⟩ := Row.open h1
 refine ⟨a, cap, hv, h3, h4, fun hn => ?_⟩
 obtain ⟨g, o, ha, hg, hc⟩ := h5 hn
 refine ⟨g, o, ha, hg, fun i x hx => ⟨_, ?_, h2 i x hx, fun j u hu => ?_⟩⟩
 ·have hi := (List.getElem?_eq_some_iff.1 hx).1
  rw [List.length_take, List.length_drop, hlen]
  have : i * size + size ≤ l.length * size := by rw [← Nat.succ_mul]; exact Nat.mul_le_mul_right _ hi
  omega
 ·rw [List.getElem?_take] at hu
  split at hu
  ·rw [List.getElem?_drop] at hu
   have := hc _ u hu
   rw [← Nat.add_assoc] at this
   exact this
  ·cases hu
theorem ytx.open {w : World} {v : Value} {l : List VarD} (h : ytx w v l) : ∃ a cap, v = .slice a l.length cap ∧ l.length ≤ cap ∧ cap ≤ 9223372036854775807 ∧
  (0 < l.length → ∃ g o, a = some ⟨g, o, none⟩ ∧ g < w.heap.size ∧ ∀ i x, l[i]? = some x → w.cell? ⟨g, o + i * 6, none⟩ = some (.string x.name) ∧ w.cell? ⟨g, o + i * 6 + 1, none⟩ = some (.int .i64 x.kind) ∧ w.cell? ⟨g, o + i * 6 + 2, none⟩ = some (.int .i64 x.lo) ∧
   w.cell? ⟨g, o + i * 6 + 3, none⟩ = some (.int .i64 x.hi) ∧ w.cell? ⟨g, o + i * 6 + 4, none⟩ = some (.int .i64 x.perNode) ∧ w.cell? ⟨g, o + i * 6 + 5, none⟩ = some (.int .i64 x.perID)) := by
 obtain ⟨a, cap, hv, h3, h4, _, h5⟩ := Row.open h
 refine ⟨a, cap, hv, h3, h4, fun hn => ?_⟩
 obtain ⟨g, o, ha, hg, hc⟩ := h5 hn
 refine ⟨g, o, ha, hg, fun i x hx => ?_⟩
 have h0 := fun j u hu => ylz ykf 6 (fun _ => rfl) l i j x u hx hu
 exact ⟨hc _ _ (h0 0 _ rfl), hc _ _ (h0 1 _ rfl), hc _ _ (h0 2 _ rfl), hc _ _ (h0 3 _ rfl), hc _ _ (h0 4 _ rfl), hc _ _ (h0 5 _ rfl)⟩
theorem ypz.open {w : World} {v : Value} {l : List RuleD} (h : ypz w v l) : ∃ a cap, v = .slice a l.length cap ∧ l.length ≤ cap ∧ cap ≤ 9223372036854775807 ∧
  (0 < l.length → ∃ g o, a = some ⟨g, o, none⟩ ∧ g < w.heap.size ∧ ∀ i r, l[i]? = some r → ∃ gv sv, yde w gv r.guard ∧ Seq (ykj w) 2 w sv r.sets ∧ w.cell? ⟨g, o + i * 3, none⟩ = some (.string r.name) ∧ w.cell? ⟨g, o + i * 3 + 1, none⟩ = some gv ∧ w.cell? ⟨g, o + i * 3 + 2, none⟩ = some sv) := by
 obtain ⟨a, cap, hv, h3, h4, h5⟩ := Seq.open h
 refine ⟨a, cap, hv, h3, h4, fun hn => ?_⟩
 obtain ⟨g, o, ha, hg, hc⟩ := h5 hn
 refine ⟨g, o, ha, hg, fun i r hr => ?_⟩
 obtain ⟨cs, _, ⟨gv, sv, rfl, q1, q2⟩, q3⟩ := hc i r hr
 exact ⟨gv, sv, q1, q2, q3 0 _ rfl, q3 1 _ rfl, q3 2 _ rfl⟩
theorem yfy {w : World} {v : Value} {l : List SetD} (h : Seq (ykj w) 2 w v l) : ∃ a cap, v = .slice a l.length cap ∧ l.length ≤ cap ∧ cap ≤ 9223372036854775807 ∧
  (0 < l.length → ∃ g o, a = some ⟨g, o, none⟩ ∧ g < w.heap.size ∧ ∀ i s, l[i]? = some s → ∃ sv, yde w sv s.val ∧ w.cell? ⟨g, o + i * 2, none⟩ = some (.int .i64 s.var) ∧ w.cell? ⟨g, o + i * 2 + 1, none⟩ = some sv) := by
 obtain ⟨a, cap, hv, h3, h4, h5⟩ := Seq.open h
 refine ⟨a, cap, hv, h3, h4, fun hn => ?_⟩
 obtain ⟨g, o, ha, hg, hc⟩ := h5 hn
 refine ⟨g, o, ha, hg, fun i s hs => ?_⟩
 obtain ⟨cs, _, ⟨sv, rfl, q1⟩, q3⟩ := hc i s hs
 exact ⟨sv, q1, q3 0 _ rfl, q3 1 _ rfl⟩
theorem zjl : Tryz.prog.cellsOf 198 = 6 := by kernel_rfl
theorem zjk : Tryz.prog.cellsOf 99 = 2 := by kernel_rfl
theorem zeh : Tryz.prog.cellsOf 97 = 3 := by kernel_rfl
theorem cellsProgram : Tryz.prog.cellsOf 25 = 3 := by kernel_rfl
theorem yqe : Tryz.prog.cellsOf 9 = 1 := by kernel_rfl
theorem yzm : Tryz.prog.cellsOf 83 = 1 := by kernel_rfl
theorem cellsSets : Tryz.prog.cellsOf 95 = 1 := by kernel_rfl
theorem cellsVars : Tryz.prog.cellsOf 22 = 1 := by kernel_rfl
theorem cellsRules : Tryz.prog.cellsOf 23 = 1 := by kernel_rfl
theorem zcs {n : Nat} (h : n ≤ maxLen) : n ≤ 9223372036854775807 := by unfold maxLen at h; omega
section
variable {H : Type} {enc : TypeId × Value → H} {w : World} {cs : List Value} {v : Value} {base : Nat} {d : DataW H} {ps : List MemPlace}
theorem rd_var (h : Rd enc Tryz.prog w 198 cs) : ∃ x : VarD, cs = ykf x ∧ zqn x := by
 obtain ⟨h1, h2⟩ := yjk Tryz.underlying198 h
 rw [zjl] at h1
 match cs, h1 with
 | [a, b, c, d, e, f], _ =>
  have g0 := h2 0 _ rfl
  have g1 := h2 1 _ rfl
  have g2 := h2 2 _ rfl
  have g3 := h2 3 _ rfl
  have g4 := h2 4 _ rfl
  have g5 := h2 5 _ rfl
  simp [zbt, yqe] at g0 g1 g2 g3 g4 g5
  obtain ⟨s, hs, hs'⟩ := yxz Tryz.underlying9 g0
  obtain ⟨x1, e1, q1⟩ := ygs Tryz.underlying3 g1
  obtain ⟨x2, e2, q2⟩ := ygs Tryz.underlying3 g2
  obtain ⟨x3, e3, q3⟩ := ygs Tryz.underlying3 g3
  obtain ⟨x4, e4, q4⟩ := ygs Tryz.underlying3 g4
  obtain ⟨x5, e5, q5⟩ := ygs Tryz.underlying3 g5
  simp at hs e1 e2 e3 e4 e5
  exact ⟨⟨s, x1, x2, x3, x4, x5⟩, by simp [ykf, hs, e1, e2, e3, e4, e5], zcs hs', q1, q2, q3, q4, q5⟩
theorem rd_set (h : Rd enc Tryz.prog w 99 cs) : ∃ s : SetD, ykj w cs s ∧ zsl s := by
 obtain ⟨h1, h2⟩ := yjk Tryz.underlying99 h
 rw [zjk] at h1
 match cs, h1 with
 | [a, b], _ =>
  have g0 := h2 0 _ rfl
  have g1 := h2 1 _ rfl
  simp [zbt, yzm] at g0 g1
  obtain ⟨x1, e1, q1⟩ := ygs Tryz.underlying3 g0
  obtain ⟨v, l, e2, q2, q3⟩ := zky g1
  simp at e1 e2
  exact ⟨⟨x1, l⟩, ⟨v, by simp [e1, e2], q2⟩, q1, q3⟩
theorem rd_rule (h : Rd enc Tryz.prog w 97 cs) : ∃ r : RuleD, ywc w cs r ∧ yzh r := by
 obtain ⟨h1, h2⟩ := yjk Tryz.underlying97 h
 rw [zeh] at h1
 match cs, h1 with
 | [a, b, c], _ =>
  have g0 := h2 0 _ rfl
  have g1 := h2 1 _ rfl
  have g2 := h2 2 _ rfl
  simp [yqe, yzm, cellsSets] at g0 g1 g2
  obtain ⟨s, hs, hs'⟩ := yxz Tryz.underlying9 g0
  obtain ⟨gv, l, e2, q2, q3⟩ := zky g1
  obtain ⟨sv, ss, e3, q4⟩ := yka (R := fun cs s => ykj w cs s ∧ zsl s) Tryz.underlying95 zjk (Nat.succ_pos 1) (fun cs h => rd_set h) g2
  simp at hs e2 e3
  refine ⟨⟨s, l, ss⟩, ⟨gv, sv, by simp [hs, e2, e3], q2, q4.imp fun _ _ _ h => h.1⟩, zcs hs', q3, fun x hx => ?_⟩
  obtain ⟨xs, _, h2⟩ := q4
  obtain ⟨i, hi⟩ := List.getElem?_of_mem hx
  exact (h2 i x hi).2
theorem rd_vars (h : Rd enc Tryz.prog w 22 cs) : ∃ v l, cs = [v] ∧ ytx w v l ∧ ∀ x ∈ l, zqn x := by
 obtain ⟨v, l, h1, h2⟩ := yka (R := fun cs x => cs = ykf x ∧ zqn x) Tryz.underlying22 zjl (Nat.succ_pos 5) (fun cs h => rd_var h) h
 refine ⟨v, l, h1, ysc ykf (fun _ => rfl) (by omega) h2 (fun cs x h => h.1), fun x hx => ?_⟩
 obtain ⟨xs, _, h3⟩ := h2
 obtain ⟨i, hi⟩ := List.getElem?_of_mem hx
 exact (h3 i x hi).2
theorem rd_rules (h : Rd enc Tryz.prog w 23 cs) : ∃ v l, cs = [v] ∧ ypz w v l ∧ ∀ x ∈ l, yzh x := by
 obtain ⟨v, l, h1, h2⟩ := yka (R := fun cs x => ywc w cs x ∧ yzh x) Tryz.underlying23 zeh (Nat.succ_pos 2) (fun cs h => rd_rule h) h
 refine ⟨v, l, h1, h2.imp fun _ _ _ h => h.1, fun x hx => ?_⟩
 obtain ⟨xs, _, h3⟩ := h2
 obtain ⟨i, hi⟩ := List.getElem?_of_mem hx
 exact (h3 i x hi).2
theorem open_program (hv : Value.okWide Tryz.prog w .any base 25 v) (h : DataW.Trod enc Tryz.prog w 0 (fun _ => true) true 25 v d ps) : ∃ p, ygy w v p ∧ ygx p := by
 obtain ⟨cs, rfl, hcs⟩ : ∃ cs, v = .agg cs ∧ cs.size = Tryz.prog.cellsOf 25 := by
  unfold Value.okWide at hv
  rw [Tryz.underlying25] at hv
  obtain ⟨cs, h1, h2, _⟩ := hv
  exact ⟨cs, h1, h2⟩
 have hr := ztc h
 simp only [Value.cells] at hr
 obtain ⟨h1, h2⟩ := yjk Tryz.underlying25 hr
 rw [cellsProgram] at h1
 obtain ⟨cs⟩ := cs
 simp only at h1 h2
 match cs, h1 with
 | [a, b, c], _ =>
  have g0 := h2 0 _ rfl
  have g1 := h2 1 _ rfl
  have g2 := h2 2 _ rfl
  simp [yqe, cellsVars, cellsRules] at g0 g1 g2
  obtain ⟨s, hs, hs'⟩ := yxz Tryz.underlying9 g0
  obtain ⟨vv, l, e2, q2, q3⟩ := rd_vars g1
  obtain ⟨rv, rr, e3, q4, q5⟩ := rd_rules g2
  simp at hs e2 e3
  exact ⟨⟨s, l, rr⟩, ⟨vv, rv, by simp [hs, e2, e3], q2, q4⟩, zcs hs', q3, q5⟩
end
end
section
open Go.RowKit
theorem yzs (v : Value) (l : List Tm) (k : Nat) (w : World) (hl : l.length ≤ 1000) (hv : Hid (yde w v l)) (_hk : k ≤ 1000) :
  Calls Tryz.prog 197 #[v, .int .i64 k] w fun e w' => e = .returned (.int .i64 (ype 1 k l)) ∧ w = w' := by
 by_cases h : k < l.length
 ·exact end_any_in v l k w hl hv h
 ·obtain ⟨a, cap, rfl, h1, h2, _⟩ := hv.out.open
  have H := Lib.hid (yrb 1 k l (by omega) (by omega))
  go_enter Tryz.func197, Tryz.ntmps197
  go_wp2
  go_ret
  exact ⟨ybh H.out.symm, rfl⟩
theorem ynt (v : Value) (l : List Tm) (k : Nat) (w : World) (hl : l.length ≤ 1000) (hv : Hid (yde w v l)) (_hk : k ≤ 1000) :
  Calls Tryz.prog 294 #[v, .int .i64 k] w fun e w' => e = .returned (.int .i64 (ype 1 k l)) ∧ w = w' := by
 by_cases h : k < l.length
 ·exact rend_any_in v l k w hl hv h
 ·obtain ⟨a, cap, rfl, h1, h2, _⟩ := hv.out.open
  have H := Lib.hid (yrb 1 k l (by omega) (by omega))
  go_enter Tryz.func294, Tryz.ntmps294
  go_wp2
  go_ret
  exact ⟨ybh H.out.symm, rfl⟩
theorem ywq (l : List Tm) : ype 1 0 l = l.length ↔ ∃ E, yex l = some E := by
 rw [parse_iff]
 unfold ype
 rw [List.drop_zero]
 cases h : zhh 1 l with
 | none => simp
 | some n => simp; omega
theorem depth1_any (op : Int) (g : Nat) (w : World) (hg : g ≤ 1000) : Calls Tryz.prog 239 #[.int .i64 op, .int .i64 g] w fun e w' => e = .returned (.int .i64 (ygf op g : Nat)) ∧ w = w' := by
 go_enter Tryz.func239, Tryz.ntmps239
 go_wp2
 go_ret
 exact ⟨ybh (by unfold ygf; omega), rfl⟩
theorem nest1_any (op : Int) (g : Nat) (w : World) (hg : g ≤ 1000) : Calls Tryz.prog 240 #[.int .i64 op, .int .i64 g] w fun e w' => e = .returned (.int .i64 (ylh op g : Nat)) ∧ w = w' := by
 cases ha : yhs op
 all_goals
  go_enter Tryz.func240, Tryz.ntmps240
  go_wp2_with (go_at_call 241; refine (yii _ _).mono ?_; rintro e w' ⟨rfl, rfl⟩)
  go_ret
  exact ⟨ybh (by unfold ylh; rw [ha]; simp), rfl⟩
theorem zro (f : Int → Nat → Nat) (hf : ∀ op g, f op g ≤ g + 1) (l : List Tm) : ∀ x ∈ lev f l, x ≤ l.length := by
 have hm : ∀ (xs : List Nat) (b : Nat), (∀ x ∈ xs, x ≤ b) → ynb xs ≤ b := by
  intro xs b
  induction xs with
  | nil => intro _; simp [ynb]
  | cons a xs ih =>
   intro h
   have h1 := h a (List.mem_cons_self ..)
   have h2 := ih (fun x hx => h x (List.mem_cons_of_mem _ hx))
   simp only [ynb]; omega
 induction l with
 | nil => intro x hx; simp [lev] at hx
 | cons t l ih =>
  intro x hx
  simp only [lev] at hx
  cases hx with
  | head =>
   have h1 := hm ((lev f l).take (ar t.1).toNat) l.length (fun x hx => ih x (List.mem_of_mem_take hx))
   have h2 := hf t.1 (ynb ((lev f l).take (ar t.1).toNat))
   simp only [List.length_cons]; omega
  | tail _ hx => have := ih x (List.mem_of_mem_drop hx); simp only [List.length_cons]; omega
theorem zol (f : Int → Nat → Nat) (l : List Tm) : (lev f l).length ≤ l.length := by
 induction l with
 | nil => simp [lev]
 | cons t l ih => simp only [lev, List.length_cons, List.length_drop]; omega
theorem yxl (xs ys : List Nat) : ynb (xs ++ ys) = max (ynb xs) (ynb ys) := by
 induction xs with
 | nil => simp [ynb]
 | cons a xs ih => simp only [List.cons_append, ynb, ih]; omega
theorem maxl_reverse (xs : List Nat) : ynb xs.reverse = ynb xs := by
 induction xs with
 | nil => rfl
 | cons a xs ih => rw [List.reverse_cons, yxl, ih]; simp only [ynb]; omega
theorem ypr (xs : List Nat) (q : Nat) (x : Nat) (h : xs[q]? = some x) : ynb (xs.take (q + 1)) = max (ynb (xs.take q)) x := by
 obtain ⟨h1, h2⟩ := List.getElem?_eq_some_iff.1 h
 rw [List.take_succ_eq_append_getElem h1, yxl, h2]; simp [ynb]
def ycs (xs : List Nat) : List Value := xs.map fun (n : Nat) => Value.int .i64 n
theorem yjz (xs : List Nat) (i x : Nat) (h : xs[i]? = some x) : (ycs xs)[i]? = some (.int .i64 x) := by unfold ycs; rw [List.getElem?_map, h]; rfl
theorem yfe (xs : List Nat) : (ycs xs).length = xs.length := by simp [ycs]
theorem ycu (xs ys : List Nat) : ycs (xs ++ ys) = ycs xs ++ ycs ys := by simp [ycs]
theorem yvq {w : World} {B e cap n m : Nat} {a : Option Addr} {xs ys : List Value} (hm : ys.length = m)
  (h : w.ownsRow B e 1 (.slice a n cap) n (ys ++ xs)) : w.ownsRow B e 1 (.slice a m cap) m ys := by
 obtain ⟨h1, h2⟩ := h
 refine ⟨by omega, ?_⟩
 rw [List.length_append] at h1
 rcases h2 with ⟨h0, h3⟩ | ⟨g', cap', cur, hv, hg, hh, hn, hcap, hsz, htake⟩
 ·cases h0
  exact .inl ⟨by rw [show m = 0 by omega], by omega⟩
 ·cases hv
  refine .inr ⟨g', cap, cur, rfl, hg, hh, by omega, hcap, hsz, ?_⟩
  have h4 := congrArg (List.take m) htake
  rw [List.take_take, Nat.min_eq_left (by omega), ← hm, List.take_append_of_le_length (Nat.le_refl _), List.take_length] at h4
  rw [Nat.mul_one, ← hm]; exact h4
theorem zbg {P : Program} {t : TypeId} (ht : P.underlying t = some (.slice (P.elem t))) (hs : ∀ w, (sizeOf (P.elem t)).run P w = .ok 1 w) (a : Option Addr) (n cap r m : Nat) (i : Int) (hi : i = r) (h : m + r = n) (hc : n ≤ cap) :
  ∃ sb capb, (∀ w, (Instr.slice t (.slice a n cap) (some (.int .i64 i)) none none).run P w = .ok (.slice sb m capb) w) ∧ m ≤ capb ∧ capb ≤ cap ∧ (∀ g o, a = some ⟨g, o, none⟩ → 0 < m → sb = some ⟨g, o + r, none⟩) := by
 subst hi
 refine ⟨if cap = r then a else a.map (·.add (r * 1)), cap - r, fun w => ?_, by omega, by omega, fun g o ha hr => ?_⟩
 ·rw [run_slice_l w t a n cap ht .i64 r (by omega) (by omega), hs]
  show Result.ok (sliced a r n cap 1) w = _
  unfold sliced
  rw [show n - r = m by omega]
 ·rw [if_neg (by omega), ha]
  simp only [Option.map_some, Nat.mul_one, Addr.add]
  split
  ·simp_all
  ·rfl
theorem yoy {P : Program} {t : TypeId} (ht : P.underlying t = some (.slice (P.elem t))) (hs : ∀ w, (sizeOf (P.elem t)).run P w = .ok 1 w) (a : Option Addr) (n cap r : Nat) (i : Int) (hi : i = r) (h : r ≤ cap) :
  ∀ w, (Instr.slice t (.slice a n cap) none (some (.int .i64 i)) none).run P w = .ok (.slice a r cap) w := by
 subst hi
 intro w
 rw [run_slice_h w t a n cap ht .i64 r (by omega) (by omega), hs]
 show Result.ok (sliced a 0 r cap 1) w = _
 unfold sliced
 by_cases h0 : cap = 0
 ·rw [if_pos h0]; rfl
 ·rw [if_neg h0]
  cases a <;> simp [Addr.add]
theorem zgf {w : World} {B e : Nat} {v x : Value} (h : w.ownsRow B e 1 v 1 [x]) : ∃ g cap, v = .slice (some ⟨g, 0, none⟩) 1 cap ∧ 1 ≤ cap ∧ cap ≤ 9223372036854775807 ∧ w.cell? ⟨g, 0, none⟩ = some x := by
 have h5 := h
 obtain ⟨h1, h2⟩ := h
 rcases h2 with ⟨h0, h3⟩ | ⟨g, cap, cur, rfl, hg, hh, hn, hcap, hsz, htake⟩
 ·omega
 ·unfold maxLen at hcap
  have hc := h5.cells (g := g) rfl 0 x rfl
  exact ⟨g, cap, rfl, hn, by omega, by simpa [Addr.add] using hc⟩
theorem yjj {w : World} {B e n cap : Nat} {a : Option Addr} {xs : List Value} (h : w.ownsRow B e 1 (.slice a n cap) n xs) : n ≤ cap ∧ cap ≤ 9223372036854775807 ∧ (0 < n → ∃ g, a = some ⟨g, 0, none⟩ ∧ ∀ j u, xs[j]? = some u → w.cell? ⟨g, j, none⟩ = some u) := by
 obtain ⟨a', cap', hv, h1, h2, h3, h4⟩ := (ytn h).open
 cases hv
 refine ⟨h1, h2, fun hn => ?_⟩
 rcases h.2 with ⟨h0, h5⟩ | ⟨g, cap, cur, hv, hg, hh, hn', hcap, hsz, htake⟩
 ·omega
 ·cases hv
  refine ⟨g, rfl, fun j u hu => ?_⟩
  have hc := h.cells (g := g) rfl j u hu
  have h0 : (⟨g, 0, none⟩ : Addr).add j = ⟨g, j, none⟩ := by unfold Addr.add; split <;> simp_all
  rw [h0] at hc; exact hc
theorem yxe (f : Int → Nat → Nat) (l : List Tm) (E : Ex) (hf : ydy l = some [E]) (j : Nat) (hj : j < l.length) :
  0 ≤ ar l[j].1 ∧ ∃ lo seg : List Nat, (lev f (l.drop (j + 1))).reverse = lo ++ seg ∧ (seg.length : Int) = ar l[j].1 ∧ (lev f (l.drop j)).reverse = lo ++ [f l[j].1 (ynb seg)] := by
 obtain ⟨G', hG'⟩ := forest_suffix l j _ hf
 rw [List.drop_eq_getElem_cons hj] at hG'
 obtain ⟨G, hG, h0, hle, _⟩ := yre _ _ _ hG'
 have hlen : (lev f (l.drop (j + 1))).length = G.length := by rw [ytb f _ G hG, List.length_map]
 refine ⟨h0, ((lev f (l.drop (j + 1))).drop (ar l[j].1).toNat).reverse, ((lev f (l.drop (j + 1))).take (ar l[j].1).toNat).reverse, ?_, ?_, ?_⟩
 ·rw [← List.reverse_append, List.take_append_drop]
 ·rw [List.length_reverse, List.length_take, hlen]; omega
 ·rw [List.drop_eq_getElem_cons hj]
  simp only [lev, List.reverse_cons, maxl_reverse]
theorem yxa : (Tryz.prog.info? 3).map (fun i => (i.zero, i.size, i.bytes)) = some (some (.int .i64 0), 1, 8) := by kernel_rfl
theorem yyh (w : World) : (sizeOf (Tryz.prog.elem 26)).run Tryz.prog w = .ok 1 w := by kernel_rfl
theorem ynx : Tryz.prog.underlying 26 = some (.slice (Tryz.prog.elem 26)) := by kernel_rfl
set_option maxHeartbeats 4000000 in
theorem levels_depth (v : Value) (l : List Tm) (E : Ex) (w : World) (hl : l.length ≤ 1000) (hv : Hid (yde w v l)) (hp : Hid (yex l = some E)) :
  Calls Tryz.prog 238 #[v, .func (.func 239) #[] #[]] w fun e w' => e = .returned (.tuple #[.int .i64 (val ygf E : Nat), .bool true]) ∧ Below w.heap.size w w' := by
 obtain ⟨i0, hi, hz0, hz1, hz2⟩ := info_parts yxa
 have Hi := Lib.hid hi
 have Hz0 := Lib.hid hz0
 have Hz1 := Lib.hid hz1
 have Hz2 := Lib.hid hz2
 clear hi hz0 hz1 hz2
 obtain ⟨hok, hfl⟩ := ygk hp.out
 have HF : Hid (ydy l = some [E]) := by rw [← hfl]; have := yrf E hok [] [] rfl; rw [List.append_nil] at this; exact this
 have hpos : 0 < l.length := by rw [← hfl]; exact E.fl_pos
 have HE := Lib.hid ((ywq l).2 ⟨E, hp.out⟩)
 have hne : (ype 1 0 l != (l.length : Int)) = false := by rw [HE.out]; simp
 clear hok hfl
 obtain ⟨a0, cap0, rfl, h1, h2, h3⟩ := hv.out.open
 obtain ⟨g0, o0, rfl, hg0, hc⟩ := h3 hpos
 have HC := Lib.hid hc
 clear h3 hc
 go_enter Tryz.func238, Tryz.ntmps238
 go_wp2_with (go_at_call 197; refine (yzs _ l 0 _ hl hv (by omega)).mono ?_; rintro e w' ⟨rfl, rfl⟩)
 go_loopg [6, 7, 8, 9, 11] l.length (fun m st i _ _ _ wr => m ≤ l.length ∧ i = .int .i64 ((m : Int) - 1) ∧ wr.ownsRow w.heap.size 3 1 st (lev ygf (l.drop m)).length (ycs (lev ygf (l.drop m)).reverse) ∧ Below w.heap.size w wr)
 case atStart =>
  refine ⟨Nat.le_refl _, rfl, ?_, Below.refl _ _⟩
  rw [List.drop_length]; exact World.ownsRow_nil _ _ _ _
 case round =>
  obtain ⟨hm, rfl, hown, hbel⟩ := hrel
  by_cases h0 : gk = 0
  ·subst h0
   rw [List.drop_zero, ytb ygf l [E] HF.out] at hown
   obtain ⟨g, cap, rfl, hc1, hc2, hcell⟩ := zgf hown
   go_wp2_with fail
   go_ret2
   exact ⟨rfl, hbel⟩
  ·obtain ⟨j, rfl⟩ : ∃ j, gk = j + 1 := ⟨gk - 1, by omega⟩
   have hj : j < l.length := by omega
   obtain ⟨ha0, lo, seg, hr1, hr2, hr3⟩ := yxe ygf l E HF.out j hj
   have hlen : (lev ygf (l.drop (j + 1))).length = lo.length + seg.length := by rw [← List.length_reverse, hr1, List.length_append]
   have hsegb : ynb seg ≤ 1000 := by
    have h1 := zro ygf (by intro op g; simp only [ygf]; first | omega | (split <;> omega)) (l.drop (j + 1))
    have h2 : ∀ (xs : List Nat) (b : Nat), (∀ x ∈ xs, x ≤ b) → ynb xs ≤ b := by
     intro xs b
     induction xs with
     | nil => intro _; simp [ynb]
     | cons a xs ih =>
      intro h
      have h1 := h a (List.mem_cons_self ..)
      have h2 := ih (fun x hx => h x (List.mem_cons_of_mem _ hx))
      simp only [ynb]; omega
    refine Nat.le_trans (h2 seg (l.drop (j + 1)).length fun x hx => h1 x ?_) (by rw [List.length_drop]; omega)
    rw [← List.mem_reverse, hr1]; exact List.mem_append_right _ hx
   have e1 : ((j + 1 : Nat) : Int) - 1 = j := by omega
   rw [e1]
   rw [hr1, hlen] at hown
   have H3 := Lib.hid hr3
   obtain ⟨sa, scap, rfl⟩ := ylj hown
   obtain ⟨hn1, hn2, hn3⟩ := yjj hown
   obtain ⟨sb, capb, hsl, hb1, hb2, hb3⟩ := zbg ynx yyh sa (lo.length + seg.length) scap lo.length seg.length (((lo.length + seg.length : Nat) : Int) - ar l[j].1) (by omega) (by omega) hn1
   have hsl2 := yoy ynx yyh sa (lo.length + seg.length) scap lo.length (((lo.length + seg.length : Nat) : Int) - ar l[j].1) (by omega) (by omega)
   obtain ⟨c0, c1⟩ := HC.out j _ (List.getElem?_eq_getElem hj)
   rw [← hbel.cell (p := ⟨g0, _, none⟩) hg0] at c0 c1
   have HR2 := Lib.hid hr2
   have hra : ar l[j].1 ≤ ((lo.length + seg.length : Nat) : Int) := by omega
   have hlo : lo.length + seg.length ≤ 1000 := by have h1 := zol ygf (l.drop (j + 1)); rw [List.length_drop] at h1; omega
   have hnpos : (0 < seg.length → 0 < lo.length + seg.length) := by omega
   have hlo2 : lo.length ≤ scap := by omega
   have hlo3 : lo.length ≤ 1000 := by omega
   generalize hN : lo.length + seg.length = n at *
   have HN := Lib.hid hN
   clear hN
   clear hr1 hr2 hr3 hlen e1 h0
   go_wp2_with (go_at_call 237; refine (ygo _ _).mono ?_; rintro e w' ⟨rfl, rfl⟩)
   go_loop [9, 11, 37] (fun gr _ q => ∃ k : Nat, k ≤ seg.length ∧ q = .int .i64 k ∧ gr = .int .i64 (ynb (seg.take k) : Nat)) (fun _ _ q => seg.length - (intOf q).toNat)
   case atStart => exact ⟨0, by omega, rfl, rfl⟩
   case round =>
    obtain ⟨k, hk, rfl, rfl⟩ := hrel
    by_cases hq : k < seg.length
    ·obtain ⟨g, rfl, hcs⟩ := hn3 (by have := HN.out; omega)
     obtain rfl := hb3 g 0 rfl (by omega)
     obtain ⟨x, hx⟩ : ∃ x, seg[k]? = some x := ⟨seg[k], List.getElem?_eq_getElem hq⟩
     have hcell := hcs (lo.length + k) _ (yjz (lo ++ seg) (lo.length + k) x (by rw [List.getElem?_append_right (by omega), Nat.add_sub_cancel_left]; exact hx))
     have HM := Lib.hid (ypr seg k x hx)
     clear hcs hx
     simp only [Nat.zero_add]
     generalize ynb (seg.take k) = mk at *
     go_wp2_with fail
     refine ⟨⟨k + 1, by omega, by go_num, ?_⟩, by simp [intOf]; omega⟩
     rw [HM.out]
     congr 1
     split <;> omega
    ·obtain rfl : k = seg.length := by omega
     rw [List.take_length]
     go_wp2_with fail
     have hown' : wr.ownsRow w.heap.size 3 1 (.slice sa lo.length scap) lo.length (ycs lo) := yvq (yfe lo) (by rw [ycu] at hown; exact hown)
     go_region_law (first | (go_simp; go_at_call 239; refine (depth1_any _ _ _ hsegb).mono ?_; rintro e w' ⟨rfl, rfl⟩; dsimp only) | (refine step_append_lies _ rfl (.tmp 47) (.tmp 56) 26 rfl w.heap.size 3 i0 (.int .i64 0) 1 8 Tryz.underlying26 Hi.out Hz0.out Hz1.out Hz2.out rfl (by decide) _ _ _ rfl (by exact yfw hown' (by repeat (first | exact Below.refl _ _ | apply Below.drew | refine Below.alloc ?_ (by simp) _))) ⟨wr.heap.size, 0, none⟩ 1 1 [.int .i64 (ygf l[j].1 (ynb seg) : Nat)] rfl rfl (by exact yrs _ _ _ _ (by simp)) (by simp [Value.oneCell']) (by decide) (by unfold maxLen; omega) (by omega) (by have := hbel.size; simp; omega) _ rfl ?_; intro g2 cap2 w2 hown2 hgrow2 _ _))
     have HO : w2.ownsRow w.heap.size 3 1 (.slice (some ⟨g2, 0, none⟩) (lo.length + 1) cap2) (lev ygf (l.drop j)).length (ycs (lev ygf (l.drop j)).reverse) := by
      have e5 := congrArg List.length H3.out
      rw [List.length_reverse, List.length_append] at e5
      rw [e5, H3.out, ycu]; exact hown2
     have HB : Below w.heap.size w w2 := Below.grown (by repeat (first | exact hbel | apply Below.drew | refine Below.alloc ?_ (by have := hbel.size; simp; omega) _)) hgrow2 (by have := hbel.size; simp; omega) (zau hown')
     clear hown2 hgrow2 hown'
     go_wp2_with fail
     go_roundg j
     case measure => omega
     case rel => exact ⟨by omega, by go_num, HO, HB⟩
set_option maxHeartbeats 4000000 in
theorem levels_nest (v : Value) (l : List Tm) (E : Ex) (w : World) (hl : l.length ≤ 1000) (hv : Hid (yde w v l)) (hp : Hid (yex l = some E)) :
  Calls Tryz.prog 238 #[v, .func (.func 240) #[] #[]] w fun e w' => e = .returned (.tuple #[.int .i64 (val ylh E : Nat), .bool true]) ∧ Below w.heap.size w w' := by
 obtain ⟨i0, hi, hz0, hz1, hz2⟩ := info_parts yxa
 have Hi := Lib.hid hi
 have Hz0 := Lib.hid hz0
 have Hz1 := Lib.hid hz1
 have Hz2 := Lib.hid hz2
 clear hi hz0 hz1 hz2
 obtain ⟨hok, hfl⟩ := ygk hp.out
 have HF : Hid (ydy l = some [E]) := by rw [← hfl]; have := yrf E hok [] [] rfl; rw [List.append_nil] at this; exact this
 have hpos : 0 < l.length := by rw [← hfl]; exact E.fl_pos
 have HE := Lib.hid ((ywq l).2 ⟨E, hp.out⟩)
 have hne : (ype 1 0 l != (l.length : Int)) = false := by rw [HE.out]; simp
 clear hok hfl
 obtain ⟨a0, cap0, rfl, h1, h2, h3⟩ := hv.out.open
 obtain ⟨g0, o0, rfl, hg0, hc⟩ := h3 hpos
 have HC := Lib.hid hc
 clear h3 hc
 go_enter Tryz.func238, Tryz.ntmps238
 go_wp2_with (go_at_call 197; refine (yzs _ l 0 _ hl hv (by omega)).mono ?_; rintro e w' ⟨rfl, rfl⟩)
 go_loopg [6, 7, 8, 9, 11] l.length (fun m st i _ _ _ wr => m ≤ l.length ∧ i = .int .i64 ((m : Int) - 1) ∧ wr.ownsRow w.heap.size 3 1 st (lev ylh (l.drop m)).length (ycs (lev ylh (l.drop m)).reverse) ∧ Below w.heap.size w wr)
 case atStart =>
  refine ⟨Nat.le_refl _, rfl, ?_, Below.refl _ _⟩
  rw [List.drop_length]; exact World.ownsRow_nil _ _ _ _
 case round =>
  obtain ⟨hm, rfl, hown, hbel⟩ := hrel
  by_cases h0 : gk = 0
  ·subst h0
   rw [List.drop_zero, ytb ylh l [E] HF.out] at hown
   obtain ⟨g, cap, rfl, hc1, hc2, hcell⟩ := zgf hown
   go_wp2_with fail
   go_ret2
   exact ⟨rfl, hbel⟩
  ·obtain ⟨j, rfl⟩ : ∃ j, gk = j + 1 := ⟨gk - 1, by omega⟩
   have hj : j < l.length := by omega
   obtain ⟨ha0, lo, seg, hr1, hr2, hr3⟩ := yxe ylh l E HF.out j hj
   have hlen : (lev ylh (l.drop (j + 1))).length = lo.length + seg.length := by rw [← List.length_reverse, hr1, List.length_append]
   have hsegb : ynb seg ≤ 1000 := by
    have h1 := zro ylh (by intro op g; simp only [ylh]; first | omega | (split <;> omega)) (l.drop (j + 1))
    have h2 : ∀ (xs : List Nat) (b : Nat), (∀ x ∈ xs, x ≤ b) → ynb xs ≤ b := by
     intro xs b
     induction xs with
     | nil => intro _; simp [ynb]
     | cons a xs ih =>
      intro h
      have h1 := h a (List.mem_cons_self ..)
      have h2 := ih (fun x hx => h x (List.mem_cons_of_mem _ hx))
      simp only [ynb]; omega
    refine Nat.le_trans (h2 seg (l.drop (j + 1)).length fun x hx => h1 x ?_) (by rw [List.length_drop]; omega)
    rw [← List.mem_reverse, hr1]; exact List.mem_append_right _ hx
   have e1 : ((j + 1 : Nat) : Int) - 1 = j := by omega
   rw [e1]
   rw [hr1, hlen] at hown
   have H3 := Lib.hid hr3
   obtain ⟨sa, scap, rfl⟩ := ylj hown
   obtain ⟨hn1, hn2, hn3⟩ := yjj hown
   obtain ⟨sb, capb, hsl, hb1, hb2, hb3⟩ := zbg ynx yyh sa (lo.length + seg.length) scap lo.length seg.length (((lo.length + seg.length : Nat) : Int) - ar l[j].1) (by omega) (by omega) hn1
   have hsl2 := yoy ynx yyh sa (lo.length + seg.length) scap lo.length (((lo.length + seg.length : Nat) : Int) - ar l[j].1) (by omega) (by omega)
   obtain ⟨c0, c1⟩ := HC.out j _ (List.getElem?_eq_getElem hj)
   rw [← hbel.cell (p := ⟨g0, _, none⟩) hg0] at c0 c1
   have HR2 := Lib.hid hr2
   have hra : ar l[j].1 ≤ ((lo.length + seg.length : Nat) : Int) := by omega
   have hlo : lo.length + seg.length ≤ 1000 := by have h1 := zol ylh (l.drop (j + 1)); rw [List.length_drop] at h1; omega
   have hnpos : (0 < seg.length → 0 < lo.length + seg.length) := by omega
   have hlo2 : lo.length ≤ scap := by omega
   have hlo3 : lo.length ≤ 1000 := by omega
   generalize hN : lo.length + seg.length = n at *
   have HN := Lib.hid hN
   clear hN
   clear hr1 hr2 hr3 hlen e1 h0
   go_wp2_with (go_at_call 237; refine (ygo _ _).mono ?_; rintro e w' ⟨rfl, rfl⟩)
   go_loop [9, 11, 37] (fun gr _ q => ∃ k : Nat, k ≤ seg.length ∧ q = .int .i64 k ∧ gr = .int .i64 (ynb (seg.take k) : Nat)) (fun _ _ q => seg.length - (intOf q).toNat)
   case atStart => exact ⟨0, by omega, rfl, rfl⟩
   case round =>
    obtain ⟨k, hk, rfl, rfl⟩ := hrel
    by_cases hq : k < seg.length
    ·obtain ⟨g, rfl, hcs⟩ := hn3 (by have := HN.out; omega)
     obtain rfl := hb3 g 0 rfl (by omega)
     obtain ⟨x, hx⟩ : ∃ x, seg[k]? = some x := ⟨seg[k], List.getElem?_eq_getElem hq⟩
     have hcell := hcs (lo.length + k) _ (yjz (lo ++ seg) (lo.length + k) x (by rw [List.getElem?_append_right (by omega), Nat.add_sub_cancel_left]; exact hx))
     have HM := Lib.hid (ypr seg k x hx)
     clear hcs hx
     simp only [Nat.zero_add]
     generalize ynb (seg.take k) = mk at *
     go_wp2_with fail
     refine ⟨⟨k + 1, by omega, by go_num, ?_⟩, by simp [intOf]; omega⟩
     rw [HM.out]
     congr 1
     split <;> omega
    ·obtain rfl : k = seg.length := by omega
     rw [List.take_length]
     go_wp2_with fail
     have hown' : wr.ownsRow w.heap.size 3 1 (.slice sa lo.length scap) lo.length (ycs lo) := yvq (yfe lo) (by rw [ycu] at hown; exact hown)
     go_region_law (first | (go_simp; go_at_call 240; refine (nest1_any _ _ _ hsegb).mono ?_; rintro e w' ⟨rfl, rfl⟩; dsimp only) | (refine step_append_lies _ rfl (.tmp 47) (.tmp 56) 26 rfl w.heap.size 3 i0 (.int .i64 0) 1 8 Tryz.underlying26 Hi.out Hz0.out Hz1.out Hz2.out rfl (by decide) _ _ _ rfl (by exact yfw hown' (by repeat (first | exact Below.refl _ _ | apply Below.drew | refine Below.alloc ?_ (by simp) _))) ⟨wr.heap.size, 0, none⟩ 1 1 [.int .i64 (ylh l[j].1 (ynb seg) : Nat)] rfl rfl (by exact yrs _ _ _ _ (by simp)) (by simp [Value.oneCell']) (by decide) (by unfold maxLen; omega) (by omega) (by have := hbel.size; simp; omega) _ rfl ?_; intro g2 cap2 w2 hown2 hgrow2 _ _))
     have HO : w2.ownsRow w.heap.size 3 1 (.slice (some ⟨g2, 0, none⟩) (lo.length + 1) cap2) (lev ylh (l.drop j)).length (ycs (lev ylh (l.drop j)).reverse) := by
      have e5 := congrArg List.length H3.out
      rw [List.length_reverse, List.length_append] at e5
      rw [e5, H3.out, ycu]; exact hown2
     have HB : Below w.heap.size w w2 := Below.grown (by repeat (first | exact hbel | apply Below.drew | refine Below.alloc ?_ (by have := hbel.size; simp; omega) _)) hgrow2 (by have := hbel.size; simp; omega) (zau hown')
     clear hown2 hgrow2 hown'
     go_wp2_with fail
     go_roundg j
     case measure => omega
     case rel => exact ⟨by omega, by go_num, HO, HB⟩
theorem yxf (v fv : Value) (l : List Tm) (w : World) (hl : l.length ≤ 1000) (hv : Hid (yde w v l)) (hp : Hid (yex l = none)) :
  Calls Tryz.prog 238 #[v, fv] w fun e w' => e = .returned (.tuple #[.int .i64 0, .bool false]) ∧ w = w' := by
 have hne : (ype 1 0 l != (l.length : Int)) = true := by
  rw [bne_iff_ne]
  intro h
  obtain ⟨E, hE⟩ := (ywq l).1 h
  rw [hp.out] at hE; cases hE
 obtain ⟨a0, cap0, rfl, h1, h2, h3⟩ := hv.out.open
 clear h3
 go_enter Tryz.func238, Tryz.ntmps238
 go_wp2_with (go_at_call 197; refine (yzs _ l 0 _ hl hv (by omega)).mono ?_; rintro e w' ⟨rfl, rfl⟩)
 go_ret2
 exact ⟨rfl, rfl⟩
def yuc (l : List Tm) : Nat := match yex l with | none => 0 | some E => E.dp
def zie (l : List Tm) : Nat := match yex l with | none => 0 | some E => E.ns
theorem depth_any (v : Value) (l : List Tm) (w : World) (hl : l.length ≤ 1000) (hv : Hid (yde w v l)) :
  Calls Tryz.prog 199 #[v] w fun e w' => e = .returned (.int .i64 (yuc l)) ∧ Below w.heap.size w w' := by
 cases hp : yex l with
 | none =>
  have H : Hid (yuc l = 0) := by unfold yuc; rw [hp]; rfl
  have HP := Lib.hid hp
  clear hp
  go_enter Tryz.func199, Tryz.ntmps199
  go_wp2_with (go_at_call 238; refine (yxf _ _ l _ hl hv HP).mono ?_; rintro e w' ⟨rfl, rfl⟩)
  go_ret
  exact ⟨ybh (by rw [H.out]; rfl), Below.refl _ _⟩
 | some E =>
  have H : Hid (yuc l = val ygf E) := by unfold yuc; rw [hp, val_depth]; rfl
  have HP := Lib.hid hp
  clear hp
  go_enter Tryz.func199, Tryz.ntmps199
  go_wp2_with (go_at_call 238; refine (levels_depth _ l E _ hl hv HP).mono ?_; rintro e w' ⟨rfl, hb⟩)
  go_ret
  exact ⟨ybh (by rw [H.out]), hb⟩
theorem nest_any (v : Value) (l : List Tm) (w : World) (hl : l.length ≤ 1000) (hv : Hid (yde w v l)) :
  Calls Tryz.prog 200 #[v] w fun e w' => e = .returned (.int .i64 (zie l)) ∧ Below w.heap.size w w' := by
 cases hp : yex l with
 | none =>
  have H : Hid (zie l = 0) := by unfold zie; rw [hp]; rfl
  have HP := Lib.hid hp
  clear hp
  go_enter Tryz.func200, Tryz.ntmps200
  go_wp2_with (go_at_call 238; refine (yxf _ _ l _ hl hv HP).mono ?_; rintro e w' ⟨rfl, rfl⟩)
  go_ret
  exact ⟨ybh (by rw [H.out]; rfl), Below.refl _ _⟩
 | some E =>
  have H : Hid (zie l = val ylh E) := by unfold zie; rw [hp, val_nest E (ygk hp).1]; rfl
  have HP := Lib.hid hp
  clear hp
  go_enter Tryz.func200, Tryz.ntmps200
  go_wp2_with (go_at_call 238; refine (levels_nest _ l E _ hl hv HP).mono ?_; rintro e w' ⟨rfl, hb⟩)
  go_ret
  exact ⟨ybh (by rw [H.out]), hb⟩
end
section
open Go.RowKit
def yfs (xs : List Bool) : List Value := xs.map Value.bool
theorem boolCells_get (xs : List Bool) (i : Nat) (x : Bool) (h : xs[i]? = some x) : (yfs xs)[i]? = some (.bool x) := by unfold yfs; rw [List.getElem?_map, h]; rfl
theorem ymo (xs ys : List Bool) : yfs (xs ++ ys) = yfs xs ++ yfs ys := by simp [yfs]
theorem boolCells_length (xs : List Bool) : (yfs xs).length = xs.length := by simp [yfs]
theorem zpb {w : World} {B B' e e' s s' n n' : Nat} {v v' : Value} {xs xs' : List Value} (h : w.ownsRow B e s v n xs) (h' : w.ownsRow B' e' s' v' n' xs') (hne : e ≠ e') : v.ownBlock = none ∨ v.ownBlock ≠ v'.ownBlock := by
 rcases h.2 with ⟨rfl, _⟩ | ⟨g, cap, cur, rfl, _, hh, _⟩
 ·exact .inl rfl
 ·rcases h'.2 with ⟨rfl, _⟩ | ⟨g', cap', cur', rfl, _, hh', _⟩
  ·right; simp [Value.ownBlock]
  ·right
   intro heq
   simp only [Value.ownBlock, Option.some.injEq] at heq
   rw [heq, hh'] at hh
   simp only [Option.some.injEq, Obj.cells.injEq] at hh
   exact hne hh.2.1.symm
def zco (S : Open) : List Nat := (S.map (·.1)).reverse
def ymw (S : Open) : List Bool := (S.map (·.2)).reverse
theorem yio (k : Nat) (b : Bool) (S : Open) : zco ((k, b) :: S) = zco S ++ [k] := by simp [zco]
theorem yot (k : Nat) (b : Bool) (S : Open) : ymw ((k, b) :: S) = ymw S ++ [b] := by simp [ymw]
theorem yhy (S : Open) : (zco S).length = S.length := by simp [zco]
theorem ynq (S : Open) : (ymw S).length = S.length := by simp [ymw]
def zqq (bs : List Bool) : Nat := (bs.filter id).length
theorem yzr (S : Open) : zqq (ymw S) = cnt S := by
 unfold zqq ymw cnt
 rw [List.filter_reverse, List.length_reverse, List.filter_map, List.length_map]
 rfl
theorem cntB_take_succ (bs : List Bool) (q : Nat) (x : Bool) (h : bs[q]? = some x) : zqq (bs.take (q + 1)) = zqq (bs.take q) + (if x then 1 else 0) := by
 obtain ⟨h1, h2⟩ := List.getElem?_eq_some_iff.1 h
 unfold zqq
 rw [List.take_succ_eq_append_getElem h1, List.filter_append, List.length_append, h2]
 cases x <;> simp
theorem znp (bs : List Bool) : zqq bs ≤ bs.length := List.length_filter_le _ _
def ykv : Open → Open
 | [] => []
 | (x, b) :: S => yge x b S
def Pos (S : Open) : Prop := ∀ e ∈ S, 1 ≤ e.1 ∧ e.1 ≤ 3
theorem closeS_stop (x : Nat) (b : Bool) (S : Open) (h : x ≠ 0) : ykv ((x, b) :: S) = (x, b) :: S := yku x b S h
theorem closeS_last (b : Bool) : ykv [(0, b)] = [] := by simp [ykv, yge]
theorem closeS_pop (b c : Bool) (x : Nat) (S : Open) : ykv ((0, b) :: (x, c) :: S) = ykv ((x - 1, c) :: S) := by simp [ykv, yge]
theorem closeK_Pos (S : Open) : ∀ (k : Nat) (b : Bool), k ≤ 3 → Pos S → Pos (yge k b S) := by
 induction S with
 | nil =>
  intro k b hk _
  simp only [yge]
  split
  ·intro e he; cases he
  ·intro e he; simp at he; subst he; exact ⟨by omega, hk⟩
 | cons x S ih =>
  obtain ⟨x, c⟩ := x
  intro k b hk hS
  simp only [yge]
  split
  ·exact ih _ _ (by have := hS (x, c) (List.mem_cons_self ..); omega) (fun e he => hS e (List.mem_cons_of_mem _ he))
  ·intro e he
   cases he with
   | head => exact ⟨by omega, hk⟩
   | tail _ he => exact hS e he
theorem closeK_len (S : Open) : ∀ (k : Nat) (b : Bool), (yge k b S).length ≤ S.length + 1 := by
 induction S with
 | nil => intro k b; simp only [yge]; split <;> simp
 | cons x S ih =>
  obtain ⟨x, c⟩ := x; intro k b; simp only [yge]; split
  ·have := ih (x - 1) c; simp; omega
  ·simp
def zcp (l : List Tm) (k : Nat) : Lev := zqu ⟨[], 0, 0⟩ (l.take k)
theorem zfn (l : List Tm) (k : Nat) (h : k < l.length) : zcp l (k + 1) = yjf (zcp l k) l[k] := by
 unfold zcp
 rw [List.take_succ_eq_append_getElem h, yqm]; rfl
theorem lev0_facts (l : List Tm) (k : Nat) (h : k ≤ l.length) : (zcp l k).S.length ≤ k ∧ Pos (zcp l k).S ∧ (zcp l k).d ≤ k ∧ (zcp l k).n ≤ k := by
 induction k with
 | zero => unfold zcp; simp [zqu]; intro e he; cases he
 | succ k ih =>
  obtain ⟨h1, h2, h3, h4⟩ := ih (by omega)
  rw [zfn l k (by omega)]
  have hb := zea l[k].1
  have h5 := closeK_len (zcp l k).S (ar l[k].1).toNat (yhs l[k].1)
  have h6 := closeK_Pos (zcp l k).S (ar l[k].1).toNat (yhs l[k].1) (by omega) h2
  have h7 : cnt (((ar l[k].1).toNat, yhs l[k].1) :: (zcp l k).S) ≤ k + 1 := by
   rw [← yzr]; have := znp (ymw (((ar l[k].1).toNat, yhs l[k].1) :: (zcp l k).S)); rw [ynq] at this; simp at this; omega
  unfold yjf
  refine ⟨by show (yge _ _ _).length ≤ _; omega, h6, by show max _ _ ≤ _; omega, by show max _ _ ≤ _; omega⟩
theorem lev0_all (l : List Tm) (E : Ex) (h : yex l = some E) : (zcp l l.length).d = E.dp ∧ (zcp l l.length).n = E.ns := by
 obtain ⟨h1, h2⟩ := ygk h
 unfold zcp
 rw [List.take_length, ← h2, levR_fl E h1]
 simp [cnt]
theorem zpa {w : World} {B e size n : Nat} {v : Value} {xs : List Value} (h : w.ownsRow B e size v n xs) {x : Nat} (hx : x < B) : some x ≠ v.ownBlock :=
 fun h1 => by have := (h.lt x h1.symm).1; omega
theorem ylw {w wr w' : World} {g o : Nat} {u : Value} (hg : g < w.heap.size) (hb : Below w.heap.size w wr) (hc : wr.cell? ⟨g, o, none⟩ = some u) (h : Below wr.heap.size wr w') : w'.cell? ⟨g, o, none⟩ = some u :=
 (h.cell (p := ⟨g, o, none⟩) (Nat.lt_of_lt_of_le hg hb.size)).trans hc
theorem own_frozen {w : World} {B e s n cap g : Nat} {xs : List Value} (h : w.ownsRow B e s (.slice (some ⟨g, 0, none⟩) n cap) n xs) (j : Nat) : w.frozen? ⟨g, j, none⟩ = false := by
 rcases h.2 with ⟨h0, _⟩ | ⟨g', cap', cur, hv, _, hh, _⟩
 ·cases h0
 ·cases hv
  unfold World.frozen?
  simp only [hh]
  simp
theorem lefts_dec (y : Nat) (c : Bool) (T : Open) (hy : 1 ≤ y) : (ycs (zco ((y, c) :: T))).set T.length (.int .i64 ((y : Int) - 1)) = ycs (zco ((y - 1, c) :: T)) := by
 rw [yio, yio, ycu, ycu, List.set_append_right _ _ (by rw [yfe, yhy]; exact Nat.le_refl _), yfe, yhy, Nat.sub_self]
 simp only [ycs, List.map_singleton, List.set_cons_zero]
 rw [show ((y - 1 : Nat) : Int) = (y : Int) - 1 by omega]
theorem infoBool : (Tryz.prog.info? 4).map (fun i => (i.zero, i.size, i.bytes)) = some (some (.bool false), 1, 1) := by kernel_rfl
theorem sizeBool (w : World) : (sizeOf (Tryz.prog.elem 57)).run Tryz.prog w = .ok 1 w := by kernel_rfl
theorem underBools : Tryz.prog.underlying 57 = some (.slice (Tryz.prog.elem 57)) := by kernel_rfl
def zdw (w0 w : World) (vl vo : Value) (S : Open) : Prop :=
 w.ownsRow w0.heap.size 3 1 vl S.length (ycs (zco S)) ∧ w.ownsRow w0.heap.size 4 1 vo S.length (yfs (ymw S)) ∧ Below w0.heap.size w0 w
set_option maxHeartbeats 4000000 in
set_option maxRecDepth 100000 in
theorem yyd (v : Value) (l : List Tm) (E : Ex) (w : World) (hl : l.length ≤ 1000) (hv : Hid (yde w v l)) (hp : Hid (yex l = some E)) :
  Calls Tryz.prog 320 #[v] w fun e w' => e = .returned (.tuple #[.int .i64 E.dp, .int .i64 E.ns]) ∧ Below w.heap.size w w' := by
 obtain ⟨i0, hi, hz0, hz1, hz2⟩ := info_parts yxa
 obtain ⟨j0, hj, hy0, hy1, hy2⟩ := info_parts infoBool
 have Hi := Lib.hid hi
 have Hz0 := Lib.hid hz0
 have Hz1 := Lib.hid hz1
 have Hz2 := Lib.hid hz2
 have Hj := Lib.hid hj
 have Hy0 := Lib.hid hy0
 have Hy1 := Lib.hid hy1
 have Hy2 := Lib.hid hy2
 clear hi hz0 hz1 hz2 hj hy0 hy1 hy2
 obtain ⟨hok, hfl⟩ := ygk hp.out
 have HF : Hid (ydy l = some [E]) := by rw [← hfl]; have := yrf E hok [] [] rfl; rw [List.append_nil] at this; exact this
 have hpos : 0 < l.length := by rw [← hfl]; exact E.fl_pos
 clear hok hfl
 obtain ⟨a0, cap0, rfl, h1, h2, h3⟩ := hv.out.open
 obtain ⟨g0, o0, rfl, hg0, hc⟩ := h3 hpos
 have HC := Lib.hid hc
 clear h3 hc
 go_enter Tryz.func320, Tryz.ntmps320
 go_wp2_with fail
 go_loopw [4, 5, 6, 7, 8, 9, 10] (fun d n vl vo i _ _ wr => ∃ k : Nat, k ≤ l.length ∧ i = .int .i64 k ∧ d = .int .i64 (zcp l k).d ∧ n = .int .i64 (zcp l k).n ∧ Hid (zdw w wr vl vo (zcp l k).S)) (fun _ _ _ _ i _ _ _ => l.length - (intOf i).toNat)
 case atStart => exact ⟨0, by omega, rfl, rfl, rfl, World.ownsRow_nil _ _ _ _, World.ownsRow_nil _ _ _ _, Below.refl _ _⟩
 case round =>
  obtain ⟨k, hk, rfl, rfl, rfl, hst⟩ := hrel
  obtain ⟨q1, q2, q3, q4⟩ := lev0_facts l k hk
  by_cases hlt : k < l.length
  ·obtain ⟨ha0, _⟩ := yxe ygf l E HF.out k hlt
   have ha1 := (zea l[k].1).2
   obtain ⟨c0, c1⟩ := HC.out k _ (List.getElem?_eq_getElem hlt)
   have HS := Lib.hid (zfn l k hlt)
   have HQ2 := Lib.hid q2
   clear q2
   generalize hL : zcp l k = L at *
   have HL := Lib.hid hL
   clear hL
   obtain ⟨hownL, hownO, hbel⟩ := hst.out
   rw [← hbel.cell (p := ⟨g0, _, none⟩) hg0] at c0 c1
   have hbs := hbel.size
   go_wp2_with fail
   go_region_held3 (fun w' => w'.cell? ⟨g0, o0 + k * 2, none⟩ = some (.int .i64 l[k].1)) (first | exact cB | exact cA | (refine ylw hg0 hbelA cA ?_; repeat (first | exact Below.refl _ _ | apply Below.drew | refine Below.alloc ?_ (by simp) _)) | exact c0 | (refine ylw hg0 hbel c0 ?_; repeat (first | exact Below.refl _ _ | apply Below.drew | refine Below.alloc ?_ (by simp) _)))
    (first | (go_at_call 262; refine (yea _ _).mono ?_; rintro e w' ⟨rfl, rfl⟩) | (go_at_call 264; refine (ykn _ _).mono ?_; rintro e w' ⟨rfl, rfl⟩) | (refine step_append_lies _ rfl (.tmp 26) (.tmp 33) 57 rfl w.heap.size 4 j0 (.bool false) 1 1 Tryz.underlying57 Hj.out Hy0.out Hy1.out Hy2.out rfl (by decide) _ _ _ rfl (by exact yfw hownO2 (by repeat (first | exact Below.refl _ _ | apply Below.drew | refine Below.alloc ?_ (by simp) _))) ⟨wA.heap.size, 0, none⟩ 1 1 [.bool (yhs l[k].1)] rfl rfl (by exact yrs _ _ _ _ (by simp)) (by simp [Value.oneCell']) (by decide) (by unfold maxLen; omega) (by omega) (by simp; omega) _ rfl ?_; intro gB capB wB hownB hgrowB _ _; have cB : wB.cell? ⟨g0, o0 + k * 2, none⟩ = some (.int .i64 l[k].1) := hgrowB.cell (ylw hg0 hbelA cA (by repeat (first | exact Below.refl _ _ | apply Below.drew | refine Below.alloc ?_ (by first | exact Nat.le_refl _ | exact hbsA | (simp; omega) | simp) _))) (zpa hownO2 hg0)) | (refine step_append_lies _ rfl (.tmp 17) (.tmp 24) 26 rfl w.heap.size 3 i0 (.int .i64 0) 1 8 Tryz.underlying26 Hi.out Hz0.out Hz1.out Hz2.out rfl (by decide) _ _ _ rfl (by exact yfw hownL (by repeat (first | exact Below.refl _ _ | apply Below.drew | refine Below.alloc ?_ (by simp) _))) ⟨wr.heap.size, 0, none⟩ 1 1 [.int .i64 (ar l[k].1)] rfl rfl (by exact yrs _ _ _ _ (by simp)) (by simp [Value.oneCell']) (by decide) (by unfold maxLen; omega) (by omega) (by simp; omega) _ rfl ?_; intro gA capA wA hownA hgrowA _ _; have hownO2 := (yfw hownO (by repeat (first | exact Below.refl _ _ | apply Below.drew | refine Below.alloc ?_ (by simp) _))).kept hgrowA (zpb hownO hownL (by decide)); have cA : wA.cell? ⟨g0, o0 + k * 2, none⟩ = some (.int .i64 l[k].1) := hgrowA.cell (ylw hg0 hbel c0 (by repeat (first | exact Below.refl _ _ | apply Below.drew | refine Below.alloc ?_ (by first | exact Nat.le_refl _ | exact hbs | (simp; omega) | simp) _))) (zpa hownL hg0); have hbelA : Below w.heap.size w wA := Below.grown (by repeat (first | exact hbel | apply Below.drew | refine Below.alloc ?_ (by first | exact Nat.le_refl _ | exact hbs | (simp; omega) | simp) _)) hgrowA (by simp; omega) (zau hownL); have hbsA := hbelA.size))
   have harn : ((ar l[k].1).toNat : Int) = ar l[k].1 := by omega
   have HST : Hid (zdw w wB (.slice (some ⟨gA, 0, none⟩) (L.S.length + 1) capA) (.slice (some ⟨gB, 0, none⟩) (L.S.length + 1) capB) (((ar l[k].1).toNat, yhs l[k].1) :: L.S)) := by
    refine ⟨?_, ?_, Below.grown (by repeat (first | exact hbelA | apply Below.drew | refine Below.alloc ?_ (by first | exact hbsA | (simp; omega)) _)) hgrowB (by simp; omega) (zau hownO2)⟩
    ·rw [yio, ycu, ycs, ycs, List.map_singleton, harn]
     exact (yfw hownA (by repeat (first | exact Below.refl _ _ | apply Below.drew | refine Below.alloc ?_ (by simp) _))).kept hgrowB (zpb hownA hownO2 (by decide))
    ·rw [yot, ymo]; exact hownB
   clear hownA hownB hgrowA hgrowB hownO2 cA cB hbelA hbsA hownL hownO harn c0 c1 hbs
   obtain ⟨S1, hS1⟩ : ∃ S1, S1 = ((ar l[k].1).toNat, yhs l[k].1) :: L.S := ⟨_, rfl⟩
   have hlen1 : L.S.length + 1 = S1.length := by rw [hS1]; rfl
   have hP1 : Hid (Pos S1.tail) := by rw [hS1]; exact HQ2
   have hclose : Hid (yge (ar l[k].1).toNat (yhs l[k].1) L.S = ykv S1) := by rw [hS1]; rfl
   have hcnt : Hid (cnt (((ar l[k].1).toNat, yhs l[k].1) :: L.S) = zqq (ymw S1)) := by rw [hS1, yzr]; rfl
   have hol : Hid ((ymw S1).length = S1.length) := ynq S1
   rw [← hS1] at HST
   rw [hlen1] at HST ⊢
   have hn1 : S1.length ≤ 1000 := by omega
   have HL1 := Lib.hid hlen1
   clear hS1 hlen1
   obtain ⟨hoL, hoO, hbB⟩ := HST.out
   obtain ⟨o1, o2, o3⟩ := yjj hoO
   obtain ⟨p1, p2, p3⟩ := yjj hoL
   go_wp2_with fail
   go_loop [9, 10] (fun c q => ∃ j : Nat, j ≤ S1.length ∧ q = .int .i64 j ∧ c = .int .i64 (zqq ((ymw S1).take j) : Nat)) (fun _ q => S1.length - (intOf q).toNat)
   case atStart => exact ⟨0, by omega, rfl, rfl⟩
   case round =>
    obtain ⟨j, hj, rfl, rfl⟩ := hrel
    by_cases hq : j < S1.length
    ·obtain ⟨g, hge, hcs⟩ := o3 (by omega)
     simp only [Option.some.injEq, Addr.mk.injEq] at hge
     obtain ⟨rfl, _⟩ := hge
     obtain ⟨x, hx⟩ : ∃ x, (ymw S1)[j]? = some x := ⟨(ymw S1)[j]'(by rw [hol.out]; exact hq), List.getElem?_eq_getElem _⟩
     have hcell := hcs j _ (boolCells_get _ j x hx)
     have HM := Lib.hid (cntB_take_succ (ymw S1) j x hx)
     have hcb := znp ((ymw S1).take j)
     rw [List.length_take, hol.out] at hcb
     clear hcs hx
     generalize zqq ((ymw S1).take j) = cj at *
     cases x
     all_goals
      go_wp2_with fail
      refine ⟨⟨j + 1, by omega, by go_num, ?_⟩, by simp [intOf]; omega⟩
      rw [HM.out]; simp
    ·obtain rfl : j = S1.length := by omega
     rw [List.take_of_length_le (by rw [hol.out]; exact Nat.le_refl _), ← hcnt.out]
     generalize hc1 : cnt (((ar l[k].1).toNat, yhs l[k].1) :: L.S) = c1 at *
     obtain ⟨d1, hd1⟩ : ∃ d1 : Nat, d1 = max L.d S1.length := ⟨_, rfl⟩
     obtain ⟨n1, hn1e⟩ : ∃ n1 : Nat, n1 = max L.n c1 := ⟨_, rfl⟩
     have hm1 : (if L.d < S1.length then (S1.length : Int) else (L.d : Int)) = (d1 : Int) := by rw [hd1]; split <;> omega
     have hm2 : (if L.n < c1 then (c1 : Int) else (L.n : Int)) = (n1 : Int) := by rw [hn1e]; split <;> omega
     have HN : Hid (yjf L l[k] = ⟨ykv S1, d1, n1⟩) := by
      unfold yjf; rw [hc1, hclose.out, hd1, hn1e, ← HL1.out]; rfl
     clear hd1 hn1e hc1 hcnt hclose
     go_wp2_with fail
     clear hm1 hm2 o3 p3 hoL hoO
     go_loopg [6, 7] S1.length (fun m vl vo wy => ∃ S : Open, Hid (S.length = m) ∧ m ≤ S1.length ∧ Hid (ykv S1 = ykv S) ∧ Hid (zdw w wy vl vo S) ∧ Hid (Pos S.tail))
     case atStart => exact ⟨S1, rfl, Nat.le_refl _, rfl, HST, hP1⟩
     case round =>
      obtain ⟨S, hSl, hSm, hSc, hSt, hSp⟩ := hrel
      obtain ⟨wy, rfl⟩ : ∃ wy : World, wy = wr := ⟨_, rfl⟩
      obtain ⟨hoL, hoO, hbY⟩ := hSt.out
      rcases S with _ | ⟨⟨x, b⟩, T⟩
      ·obtain ⟨la, lcap, rfl⟩ := ylj (n := 0) hoL
       obtain ⟨oa, ocap, rfl⟩ := ylj (n := 0) hoO
       go_wp2_with fail
       exact ⟨⟨k + 1, by omega, by go_num, by rw [HS.out, HN.out], by rw [HS.out, HN.out], by rw [HS.out, HN.out]; show zdw w _ _ _ (ykv S1); rw [hSc.out, show ykv [] = [] from rfl]; exact hSt⟩, by simp [intOf]; omega⟩
      ·obtain ⟨la, lcap, rfl⟩ := ylj (n := T.length + 1) hoL
       obtain ⟨oa, ocap, rfl⟩ := ylj (n := T.length + 1) hoO
       have hTl : T.length + 1 ≤ 1000 := by have := hSl.out; simp only [List.length_cons] at this; omega
       obtain ⟨o1', o2', o3⟩ := yjj (n := T.length + 1) hoO
       obtain ⟨p1', p2', p3⟩ := yjj (n := T.length + 1) hoL
       obtain ⟨g, rfl, hcs⟩ := p3 (by omega)
       have hcx := hcs T.length _ (yjz _ T.length x (by rw [yio, ← yhy T, List.getElem?_append_right (Nat.le_refl _), Nat.sub_self]; rfl))
       have eT : (((T.length + 1 : Nat) : Int) - 1) = (T.length : Int) := by omega
       by_cases hx : x = 0
       ·subst hx
        have hsl1 := yoy ynx yyh (some ⟨g, 0, none⟩) (T.length + 1) lcap T.length (((T.length + 1 : Nat) : Int) - 1) (by omega) (by omega)
        have hsl2 := yoy underBools sizeBool oa (T.length + 1) ocap T.length (((T.length + 1 : Nat) : Int) - 1) (by omega) (by omega)
        have hsl1' : ∀ w, (Instr.slice 26 (.slice (some ⟨g, 0, none⟩) (T.length + 1) lcap) none (some (.int .i64 (T.length : Int))) none).run Tryz.prog w = .ok (.slice (some ⟨g, 0, none⟩) T.length lcap) w := by intro w; have := hsl1 w; rw [eT] at this; exact this
        have hsl2' : ∀ w, (Instr.slice 57 (.slice oa (T.length + 1) ocap) none (some (.int .i64 (T.length : Int))) none).run Tryz.prog w = .ok (.slice oa T.length ocap) w := by intro w; have := hsl2 w; rw [eT] at this; exact this
        have HoL : wy.ownsRow w.heap.size 3 1 (.slice (some ⟨g, 0, none⟩) T.length lcap) T.length (ycs (zco T)) := yvq (by rw [yfe, yhy]) (by rw [yio, ycu] at hoL; exact hoL)
        have HoO : wy.ownsRow w.heap.size 4 1 (.slice oa T.length ocap) T.length (yfs (ymw T)) := yvq (by rw [boolCells_length, ynq]) (by rw [yot, ymo] at hoO; exact hoO)
        have hx0 : ((0 : Int) == 0) = true := by simp
        have hT : (T.length = 0 ∧ Hid (T = [])) ∨ ∃ y c T', Hid (T = (y, c) :: T') ∧ 0 < T.length ∧ 1 ≤ y ∧ y ≤ 3 ∧ wy.cell? ⟨g, T.length - 1, none⟩ = some (.int .i64 (y : Nat)) := by
         rcases T with _ | ⟨⟨y, c⟩, T'⟩
         ·exact .inl ⟨rfl, rfl⟩
         ·have hy := hSp.out (y, c) (List.mem_cons_self ..)
          refine .inr ⟨y, c, T', rfl, by simp, hy.1, hy.2, ?_⟩
          obtain ⟨_, _, q3⟩ := yjj HoL
          obtain ⟨g', hg', hq⟩ := q3 (by simp)
          cases hg'
          exact hq _ _ (yjz _ _ y (by rw [yio, List.length_cons, Nat.add_sub_cancel, ← yhy T', List.getElem?_append_right (Nat.le_refl _), Nat.sub_self]; rfl))
        have hfz := own_frozen HoL (T.length - 1)
        have hSl2 : Hid (T.length + 1 = gk) := hSl.out
        have hSp2 : Hid (Pos T) := hSp.out
        clear hsl1 hsl2 hcs p3 o3 hoL hoO
        generalize htn : T.length = tn at *
        have HTN := Lib.hid htn
        clear htn
        rcases hT with ⟨ht0, hTe⟩ | ⟨y, c, T', hTe, ht0, hy1, hy2, hcy⟩
        ·have HT0 := Lib.hid ht0
         have ht1 : tn < 1 := by omega
         clear ht0
         go_wp2_with fail
         go_quiet (fail)
         go_wp2_with fail
         go_roundg tn
         case measure => have := hSl2.out; omega
         case rel =>
          refine ⟨T, HTN, by have := hSl2.out; omega, ?_, ⟨?_, ?_, below_drewN hbY _⟩, ?_⟩
          ·rw [hSc.out, hTe.out]; exact closeS_last b
          ·rw [HTN.out]; exact yfw HoL (zqp (Below.refl _ _) _)
          ·rw [HTN.out]; exact yfw HoO (zqp (Below.refl _ _) _)
          ·rw [hTe.out]; intro e he; cases he
        ·have i1 : (1 : Int) ≤ (tn : Int) := by omega
         go_wp2_with fail
         go_quiet (fail)
         go_wp2_with fail
         have hs := HoL.stored (tn - 1) (.int .i64 ((y : Int) - 1))
         have hk := HoO.kept hs.2 (zpb HoO HoL (by decide))
         have hTl' : T'.length = tn - 1 := by have h1 := HTN.out; rw [hTe.out, List.length_cons] at h1; omega
         go_roundg tn
         case measure => have := hSl2.out; omega
         case rel =>
          refine ⟨(y - 1, c) :: T', by show T'.length + 1 = tn; omega, by have := hSl2.out; omega, ?_, ⟨?_, ?_, below_drewN (hbY.setCell (zau HoL g rfl) _) _⟩, ?_⟩
          ·rw [hSc.out, hTe.out]; exact closeS_pop b c y T'
          ·show World.ownsRow _ _ _ _ _ (T'.length + 1) _
           rw [show T'.length + 1 = tn by omega, ← lefts_dec y c T' hy1, hTl', ← hTe.out]
           exact yfw hs.1 (zqp (Below.refl _ _) _)
          ·show World.ownsRow _ _ _ _ _ (T'.length + 1) _
           rw [show T'.length + 1 = tn by omega, yot, ← yot y c T', ← hTe.out]
           exact yfw hk (zqp (Below.refl _ _) _)
          ·intro e he; exact hSp2.out e (by rw [hTe.out]; exact List.mem_cons_of_mem _ he)
       ·have hxb : ((x : Int) == 0) = false := by simp; omega
        go_wp2_with fail
        exact ⟨⟨k + 1, by omega, by go_num, by rw [HS.out, HN.out], by rw [HS.out, HN.out], by rw [HS.out, HN.out]; show zdw w _ _ _ (ykv S1); rw [hSc.out, closeS_stop x b T hx]; exact hSt⟩, by simp [intOf]; omega⟩
  ·obtain rfl : k = l.length := by omega
   have HA := Lib.hid (lev0_all l E hp.out)
   go_wp2_with fail
   go_ret2
   exact ⟨by rw [HA.out.1, HA.out.2]; rfl, hst.out.2.2⟩
end
end Go.Proofs.YtgpbgfpjlhoicaaGreatDoor
