/- Part 9 of the texts under ExprStopsAtTheError: joined, with what it needs alone. -/
import Derived.Below
import Derived.Lib.Split
import Derived.Lib.SplitLaws
import GoSem.Core.Utf8
import Derived.Lib.ItoaNum
import Derived.Lib.Strings
namespace Go.Proofs.YtcpgpiabeimefaaDoor
open Go.RowKit

abbrev Tm := Int × Int

def ar (op : Int) : Int := if op < 1 ∨ 43 < op then -1 else if op ≤ 17 then 0 else if op ≤ 29 then 1 else if op ≤ 42 then 2 else 3
def aggB (op : Int) : Bool := decide (20 ≤ op) && decide (op ≤ 29)
theorem ar_bd (op : Int) : -1 ≤ ar op ∧ ar op ≤ 3 := by unfold ar; repeat' split
                                                        all_goals omega

inductive Ex where
  | lf (t : Tm)
  | un (t : Tm) (a : Ex)
  | bi (t : Tm) (a b : Ex)
  | tr (t : Tm) (a b c : Ex)

namespace Ex
def fl : Ex → List Tm
  | lf t => [t]
  | un t a => t :: a.fl
  | bi t a b => t :: (a.fl ++ b.fl)
  | tr t a b c => t :: (a.fl ++ (b.fl ++ c.fl))
def ok : Ex → Prop
  | lf t => ar t.1 = 0
  | un t a => ar t.1 = 1 ∧ a.ok
  | bi t a b => ar t.1 = 2 ∧ a.ok ∧ b.ok
  | tr t a b c => ar t.1 = 3 ∧ a.ok ∧ b.ok ∧ c.ok
def dp : Ex → Nat
  | lf _ => 1
  | un _ a => a.dp + 1
  | bi _ a b => max a.dp b.dp + 1
  | tr _ a b c => max a.dp (max b.dp c.dp) + 1
def ns : Ex → Nat
  | lf _ => 0
  | un t a => if aggB t.1 then a.ns + 1 else a.ns
  | bi _ a b => max a.ns b.ns
  | tr _ a b c => max a.ns (max b.ns c.ns)
theorem fl_pos (E : Ex) : 1 ≤ E.fl.length := by cases E <;> simp [fl]
end Ex

def endN : Nat → List Tm → Option Nat
  | 0, _ => some 0
  | _ + 1, [] => none
  | w + 1, t :: l => if ar t.1 < 0 then none else (endN (w + (ar t.1).toNat) l).map (· + 1)
theorem endN_zero (l : List Tm) : endN 0 l = some 0 := by cases l <;> rfl
theorem endN_nil (w : Nat) : endN (w + 1) [] = none := rfl
theorem endN_bad (w : Nat) (t : Tm) (l : List Tm) (h : ar t.1 < 0) : endN (w + 1) (t :: l) = none := by simp only [endN]; rw [if_pos h]
theorem endN_step (w : Nat) (t : Tm) (l : List Tm) (h : ¬ ar t.1 < 0) : endN (w + 1) (t :: l) = (endN (w + (ar t.1).toNat) l).map (· + 1) := by simp only [endN]; rw [if_neg h]
theorem endN_fl (E : Ex) : E.ok → ∀ (w : Nat) (r : List Tm), endN (w + 1) (E.fl ++ r) = (endN w r).map (· + E.fl.length) := by
  induction E with
  | lf t =>
    intro h w r
    have h' : ar t.1 = 0 := h
    simp only [Ex.fl, List.cons_append, List.nil_append]
    rw [endN_step w t r (by omega), h']; rfl
  | un t a iha =>
    intro ⟨h, ha⟩ w r
    simp only [Ex.fl, List.cons_append]
    rw [endN_step w t _ (by omega), h, show w + (1 : Int).toNat = w + 1 from rfl, iha ha, Option.map_map]
    congr 1
  | bi t a b iha ihb =>
    intro ⟨h, ha, hb⟩ w r
    simp only [Ex.fl, List.cons_append, List.append_assoc]
    rw [endN_step w t _ (by omega), h, show w + (2 : Int).toNat = (w + 1) + 1 from rfl, iha ha, ihb hb, Option.map_map, Option.map_map]
    congr 1
    funext x; simp [List.length_append]; omega
  | tr t a b c iha ihb ihc =>
    intro ⟨h, ha, hb, hc⟩ w r
    simp only [Ex.fl, List.cons_append, List.append_assoc]
    rw [endN_step w t _ (by omega), h, show w + (3 : Int).toNat = ((w + 1) + 1) + 1 from rfl, iha ha, ihb hb, ihc hc, Option.map_map, Option.map_map, Option.map_map]
    congr 1
    funext x; simp [List.length_append]; omega

def ydi : List Tm → Option (List Ex)
  | [] => some []
  | t :: l =>
    match ydi l with
    | none => none
    | some F =>
      if ar t.1 = 0 then some (.lf t :: F)
      else if ar t.1 = 1 then (match F with | a :: F => some (.un t a :: F) | _ => none)
      else if ar t.1 = 2 then (match F with | a :: b :: F => some (.bi t a b :: F) | _ => none)
      else if ar t.1 = 3 then (match F with | a :: b :: c :: F => some (.tr t a b c :: F) | _ => none)
      else none
theorem forest_fl (E : Ex) : E.ok → ∀ (r : List Tm) (F : List Ex), ydi r = some F → ydi (E.fl ++ r) = some (E :: F) := by
  induction E with
  | lf t => intro h r F hr; have h' : ar t.1 = 0 := h; simp [Ex.fl, ydi, hr, h']
  | un t a iha => intro ⟨h, ha⟩ r F hr; simp [Ex.fl, ydi, iha ha r F hr, h]
  | bi t a b iha ihb => intro ⟨h, ha, hb⟩ r F hr; simp [Ex.fl, ydi, iha ha _ _ (ihb hb r F hr), h]
  | tr t a b c iha ihb ihc => intro ⟨h, ha, hb, hc⟩ r F hr; simp [Ex.fl, ydi, iha ha _ _ (ihb hb _ _ (ihc hc r F hr)), h]
def flAll (F : List Ex) : List Tm := F.flatMap Ex.fl
theorem forest_inv (l : List Tm) : ∀ F, ydi l = some F → (∀ E ∈ F, E.ok) ∧ flAll F = l := by
  induction l with
  | nil => intro F h; simp [ydi] at h; subst h; simp [flAll]
  | cons t l ih =>
    intro F h
    simp only [ydi] at h
    cases hl : ydi l with
    | none => rw [hl] at h; cases h
    | some G =>
      obtain ⟨h1, h2⟩ := ih G hl
      rw [hl] at h
      simp only at h
      by_cases a0 : ar t.1 = 0
      · rw [if_pos a0] at h; cases h
        refine ⟨fun E hE => ?_, by simp only [flAll, List.flatMap_cons, Ex.fl] at *; rw [h2]; rfl⟩
        cases hE with
        | head => exact a0
        | tail _ hE => exact h1 E hE
      rw [if_neg a0] at h
      by_cases a1 : ar t.1 = 1
      · rw [if_pos a1] at h
        match G, h, h1, h2 with
        | a :: G, h, h1, h2 =>
          cases h
          refine ⟨fun E hE => ?_, by simp only [flAll, List.flatMap_cons, Ex.fl] at *; rw [← h2]; rfl⟩
          cases hE with
          | head => exact ⟨a1, h1 a (List.mem_cons_self ..)⟩
          | tail _ hE => exact h1 E (List.mem_cons_of_mem _ hE)
      rw [if_neg a1] at h
      by_cases a2 : ar t.1 = 2
      · rw [if_pos a2] at h
        match G, h, h1, h2 with
        | a :: b :: G, h, h1, h2 =>
          cases h
          refine ⟨fun E hE => ?_, by simp only [flAll, List.flatMap_cons, Ex.fl] at *; rw [← h2]; simp⟩
          cases hE with
          | head => exact ⟨a2, h1 a (by simp), h1 b (by simp)⟩
          | tail _ hE => exact h1 E (List.mem_cons_of_mem _ (List.mem_cons_of_mem _ hE))
      rw [if_neg a2] at h
      by_cases a3 : ar t.1 = 3
      · rw [if_pos a3] at h
        match G, h, h1, h2 with
        | a :: b :: c :: G, h, h1, h2 =>
          cases h
          refine ⟨fun E hE => ?_, by simp only [flAll, List.flatMap_cons, Ex.fl] at *; rw [← h2]; simp⟩
          cases hE with
          | head => exact ⟨a3, h1 a (by simp), h1 b (by simp), h1 c (by simp)⟩
          | tail _ hE => exact h1 E (List.mem_cons_of_mem _ (List.mem_cons_of_mem _ (List.mem_cons_of_mem _ hE)))
      rw [if_neg a3] at h; cases h

def yfr (l : List Tm) : Option Ex := match ydi l with | some [E] => some E | _ => none
theorem parse_fl (E : Ex) (h : E.ok) : yfr E.fl = some E := by
  have := forest_fl E h [] [] rfl
  rw [List.append_nil] at this
  unfold yfr; rw [this]
theorem parse_some {l : List Tm} {E : Ex} (h : yfr l = some E) : E.ok ∧ E.fl = l := by
  unfold yfr at h
  split at h
  · rename_i E' hf
    cases h
    obtain ⟨h1, h2⟩ := forest_inv l _ hf
    exact ⟨h1 E (by simp), by simpa [flAll] using h2⟩
  · cases h

theorem endN_forest (l : List Tm) : ∀ (w n : Nat), endN w l = some n → ∃ F : List Ex, F.length = w ∧ (∀ E ∈ F, E.ok) ∧ l.take n = flAll F := by
  induction l with
  | nil => intro w n h; cases w <;> simp [endN] at h; exact ⟨[], rfl, by simp, by simp [flAll]⟩
  | cons t l ih =>
    intro w n h
    cases w with
    | zero => rw [endN_zero] at h; cases h; exact ⟨[], rfl, by simp, by simp [flAll]⟩
    | succ w =>
      by_cases hb : ar t.1 < 0
      · rw [endN_bad w t l hb] at h; cases h
      · rw [endN_step w t l hb, Option.map_eq_some_iff] at h
        obtain ⟨m, hm, rfl⟩ := h
        obtain ⟨F, h1, h2, h3⟩ := ih _ _ hm
        rw [List.take_succ_cons, h3]
        have hk := ar_bd t.1
        have cases4 : ar t.1 = 0 ∨ ar t.1 = 1 ∨ ar t.1 = 2 ∨ ar t.1 = 3 := by omega
        rcases cases4 with hk | hk | hk | hk <;> rw [hk] at h1
        · exact ⟨.lf t :: F, by simp at *; omega, fun E hE => by
            cases hE with
            | head => exact hk
            | tail _ hE => exact h2 E hE, by simp [flAll, Ex.fl]⟩
        · match F, h1, h2 with
          | a :: F, h1, h2 => exact ⟨.un t a :: F, by simp at *; omega, fun E hE => by
              cases hE with
              | head => exact ⟨hk, h2 a (by simp)⟩
              | tail _ hE => exact h2 E (List.mem_cons_of_mem _ hE), by simp [flAll, Ex.fl]⟩
          | [], h1, _ => simp at h1
        · match F, h1, h2 with
          | a :: b :: F, h1, h2 => exact ⟨.bi t a b :: F, by simp at *; omega, fun E hE => by
              cases hE with
              | head => exact ⟨hk, h2 a (by simp), h2 b (by simp)⟩
              | tail _ hE => exact h2 E (List.mem_cons_of_mem _ (List.mem_cons_of_mem _ hE)), by simp [flAll, Ex.fl]⟩
          | [a], h1, _ => simp at h1
          | [], h1, _ => simp at h1
        · match F, h1, h2 with
          | a :: b :: c :: F, h1, h2 => exact ⟨.tr t a b c :: F, by simp at *; omega, fun E hE => by
              cases hE with
              | head => exact ⟨hk, h2 a (by simp), h2 b (by simp), h2 c (by simp)⟩
              | tail _ hE => exact h2 E (List.mem_cons_of_mem _ (List.mem_cons_of_mem _ (List.mem_cons_of_mem _ hE))), by simp [flAll, Ex.fl]⟩
          | [a, b], h1, _ => simp at h1
          | [a], h1, _ => simp at h1
          | [], h1, _ => simp at h1

theorem parse_iff (l : List Tm) : (∃ E, yfr l = some E) ↔ endN 1 l = some l.length := by
  constructor
  · rintro ⟨E, h⟩
    obtain ⟨h1, h2⟩ := parse_some h
    have := endN_fl E h1 0 []
    rw [List.append_nil, h2, endN_zero] at this
    simpa using this
  · intro h
    obtain ⟨F, h1, h2, h3⟩ := endN_forest l 1 l.length h
    match F, h1, h2, h3 with
    | [E], _, h2, h3 =>
      refine ⟨E, ?_⟩
      rw [List.take_length] at h3
      rw [h3, flAll, List.flatMap_cons, List.flatMap_nil, List.append_nil]
      exact parse_fl E (h2 E (by simp))

def argB (vars : Int) (t : Tm) : Bool :=
  if t.1 = 1 then decide (0 ≤ t.2) && decide (t.2 ≤ 1073741824) else if t.1 = 5 ∨ t.1 = 12 then decide (0 ≤ t.2) && decide (t.2 < vars) else decide (t.2 = 0)
def yep (l : List Tm) (vars : Int) : Bool :=
  match yfr l with
  | none => false
  | some E => decide (l.length ≤ 200) && (l.all (argB vars) && (decide (E.dp ≤ 24) && decide (E.ns ≤ 2)))
end Go.Proofs.YtcpgpiabeimefaaDoor
set_option linter.unusedVariables false
namespace Go.Proofs.YtcpgpiabeimefaaDoor
open Go.RowKit

abbrev Lk := Int × Int
structure GraphD where
  ids : List Int
  ports : List (List Lk)
end Go.Proofs.YtcpgpiabeimefaaDoor

set_option linter.unusedVariables false
namespace Go.Proofs.YtcpgpiabeimefaaDoor

theorem take_next {α : Type} {l : List α} {k : Nat} {x : α} (hx : l[k]? = some x) : l.take (k + 1) = l.take k ++ [x] := by
  rw [List.take_add_one, hx]; rfl
end Go.Proofs.YtcpgpiabeimefaaDoor
namespace Go.Proofs.YtcpgpiabeimefaaDoor
end Go.Proofs.YtcpgpiabeimefaaDoor
set_option linter.unusedVariables false
namespace Go.Proofs.YtcpgpiabeimefaaDoor

abbrev Bs := List UInt8
def ba (l : Bs) : ByteArray := ⟨l.toArray⟩
def bl (s : ByteArray) : Bs := s.data.toList
theorem ycn (l : Bs) : bl (ba l) = l := by simp [bl, ba]
theorem ba_bl (s : ByteArray) : ba (bl s) = s := Lib.mk_data s
theorem yau (l : Bs) : (ba l).size = l.length := by simp [ba, ByteArray.size]
end Go.Proofs.YtcpgpiabeimefaaDoor
set_option linter.unusedVariables false
namespace Go.Proofs.YtcpgpiabeimefaaDoor
structure PW where
  w : Bs
  k : Nat
  v : Nat
def idxW : List Bs → Bs → Option Nat
  | [], _ => none
  | x :: l, w => if x = w then some 0 else (idxW l w).map (· + 1)
def findL (first : Int) (l : List Bs) (w : Bs) : Int :=
  if w = [] then 0 else match idxW l w with
    | some i => first + i
    | none => 0
def binL : List Bs := [[42], [47], [37], [43], [45], [61, 61], [33, 61], [60], [60, 61], [62], [62, 61], [38, 38], [124, 124]]
def aggL : List Bs := [[97, 108, 108], [115, 111, 109, 101], [99, 111, 117, 110, 116], [102, 105, 114, 115, 116], [109, 105, 110], [109, 97, 120], [115, 117, 109], [109, 101, 120], [115, 101, 99, 111, 110, 100], [104, 101, 97, 100]]
def constL : List Bs := [[116, 114, 117, 101], [102, 97, 108, 115, 101], [110, 111, 110, 101], [], [110], [105, 100, 115], [105, 100], [100, 101, 103], [114, 111, 111, 116]]
def fieldL : List Bs := [[105, 100], [100, 101, 103], [114, 111, 111, 116], [119, 101, 105, 103, 104, 116], [98, 97, 99, 107]]
def binO (w : Bs) : Int := findL 30 binL w
def aggO (w : Bs) : Int := findL 20 aggL w
def constO (w : Bs) : Int := findL 2 constL w
def fieldO (w : Bs) : Int := findL 13 fieldL w
def yej (op : Int) : Nat :=
  if op = 43 then 0 else if op = 42 then 1 else if op = 41 then 2 else if 35 ≤ op ∧ op ≤ 40 then 3 else if op = 33 ∨ op = 34 then 4 else if 30 ≤ op ∧ op ≤ 32 then 5 else if op = 18 ∨ op = 19 then 6 else 7
def ybq : List PW → Bs
  | [] => []
  | t :: _ => t.w
inductive Res where
  | ok (e : List Tm) (rest : List PW)
  | bad (err : Int) (rest : List PW)
def andR (x : Option Res) (k : List Tm → List PW → Option Res) : Option Res :=
  match x with
  | some (.ok e r) => k e r
  | some (.bad c r) => some (.bad c r)
  | none => none
def wantW (w : Bs) (ts : List PW) (k : List PW → Option Res) : Option Res :=
  match ts with
  | [] => some (.bad 4 [])
  | t :: r => if t.w = w then k r else some (.bad 4 (t :: r))
def varR (nm : Bs → Bool) (names : List Bs) (op : Int) : List PW → Res
  | [] => .bad 4 []
  | t :: r => if nm t.w = true then (match idxW names t.w with
    | some x => .ok [(op, (x : Int))] r
    | none => .bad 5 (t :: r)) else .bad 4 (t :: r)
def nearR (nm : Bs → Bool) (names : List Bs) (ts : List PW) : Res :=
  if ybq ts = [46] then (if fieldO (ybq ts.tail) = 0 then varR nm names 12 ts.tail else .ok [(fieldO (ybq ts.tail), 0)] ts.tail.tail) else .ok [(11, 0)] ts
inductive NT where
  | choice
  | bin (l : Nat)
  | tail (l : Nat) (left : List Tm)
  | unary
  | prim
def PP (nm : Bs → Bool) (names : List Bs) : Nat → NT → List PW → Option Res
  | 0, _, _ => none
  | f + 1, .choice, ts => andR (PP nm names f (.bin 1) ts) fun c r =>
      if ybq r = [63] then andR (PP nm names f .choice r.tail) fun y r2 => wantW [58] r2 fun r3 => andR (PP nm names f .choice r3) fun z r4 => some (.ok ((43, 0) :: (c ++ (y ++ z))) r4)
      else some (.ok c r)
  | f + 1, .bin l, ts => if 6 ≤ l then PP nm names f .unary ts else andR (PP nm names f (.bin (l + 1)) ts) fun left r => PP nm names f (.tail l left) r
  | f + 1, .tail l left, ts =>
      if binO (ybq ts) = 0 ∨ yej (binO (ybq ts)) ≠ l then some (.ok left ts)
      else andR (PP nm names f (.bin (l + 1)) ts.tail) fun right r => if l = 3 then some (.ok ((binO (ybq ts), 0) :: (left ++ right)) r) else PP nm names f (.tail l ((binO (ybq ts), 0) :: (left ++ right))) r
  | f + 1, .unary, ts =>
      if ybq ts = [45] then andR (PP nm names f .unary ts.tail) fun x r => some (.ok ((18, 0) :: x) r)
      else if ybq ts = [33] then andR (PP nm names f .unary ts.tail) fun x r => some (.ok ((19, 0) :: x) r)
      else PP nm names f .prim ts
  | f + 1, .prim, ts => match ts with
      | [] => some (.bad 4 [])
      | t :: r =>
        if t.k = 2 then some (.ok [(1, (t.v : Int))] r)
        else if t.w = [40] then andR (PP nm names f .choice r) fun x r2 => wantW [41] r2 fun r3 => some (.ok x r3)
        else if t.w = [113] then some (nearR nm names r)
        else if constO t.w ≠ 0 then some (.ok [(constO t.w, 0)] r)
        else if aggO t.w ≠ 0 then wantW [40] r fun r2 => andR (PP nm names f .choice r2) fun x r3 => wantW [41] r3 fun r4 => some (.ok ((aggO t.w, 0) :: x) r4)
        else some (varR nm names 5 (t :: r))
variable {nm : Bs → Bool} {names : List Bs}
theorem andR_ok {e : List Tm} {r : List PW} {k : List Tm → List PW → Option Res} : andR (some (.ok e r)) k = k e r := rfl
theorem ybx {x : Option Res} {k : List Tm → List PW → Option Res} {res : Res} (h : andR x k = some res) : (∃ e r, x = some (.ok e r) ∧ k e r = some res) ∨ ∃ c r, x = some (.bad c r) ∧ res = .bad c r := by
  cases x with
  | none => cases h
  | some y => cases y with
    | ok e r => exact .inl ⟨e, r, rfl, h⟩
    | bad c r => exact .inr ⟨c, r, rfl, (Option.some.inj h).symm⟩
theorem wantW_some {w : Bs} {ts : List PW} {k : List PW → Option Res} {res : Res} (h : wantW w ts k = some res) : (∃ t r, ts = t :: r ∧ t.w = w ∧ k r = some res) ∨ (ybq ts ≠ w ∨ ts = []) ∧ res = .bad 4 ts := by
  cases ts with
  | nil => exact .inr ⟨.inr rfl, (Option.some.inj h).symm⟩
  | cons t r =>
    simp only [wantW] at h
    split at h
    · rename_i e; exact .inl ⟨t, r, rfl, e, h⟩
    · rename_i e; exact .inr ⟨.inl e, (Option.some.inj h).symm⟩
theorem yet {x x' : Option Res} {k k' : List Tm → List PW → Option Res} {res : Res} (hx : ∀ y, x = some y → x' = some y) (hk : ∀ e r y, k e r = some y → k' e r = some y) (h : andR x k = some res) : andR x' k' = some res := by
  rcases ybx h with ⟨e, r, h1, h2⟩ | ⟨c, r, h1, h2⟩
  · rw [hx _ h1]; exact hk e r _ h2
  · rw [hx _ h1, h2]; rfl
theorem wantW_mono {w : Bs} {ts : List PW} {k k' : List PW → Option Res} {res : Res} (hk : ∀ r y, k r = some y → k' r = some y) (h : wantW w ts k = some res) : wantW w ts k' = some res := by
  cases ts with
  | nil => exact h
  | cons t r =>
    simp only [wantW] at h ⊢
    split
    · rename_i e; rw [if_pos e] at h; exact hk _ _ h
    · rename_i e; rw [if_neg e] at h; exact h
theorem PP_succ : ∀ (f : Nat) (nt : NT) (ts : List PW) (res : Res), PP nm names f nt ts = some res → PP nm names (f + 1) nt ts = some res
  | 0, nt, ts, res, h => by cases h
  | f + 1, nt, ts, res, h => by
    have ih := PP_succ f
    cases nt with
    | choice =>
      rw [PP] at h ⊢
      refine yet (ih _ _) (fun c r y h => ?_) h
      split
      · rename_i e
        rw [if_pos e] at h
        exact yet (ih _ _) (fun c r y h => wantW_mono (fun r y h => yet (ih _ _) (fun _ _ _ h => h) h) h) h
      · rename_i e; rw [if_neg e] at h; exact h
    | bin l =>
      rw [PP] at h ⊢
      split
      · rename_i e; rw [if_pos e] at h; exact ih _ _ _ h
      · rename_i e; rw [if_neg e] at h; exact yet (ih _ _) (fun c r y h => ih _ _ _ h) h
    | tail l left =>
      rw [PP] at h ⊢
      split
      · rename_i e; rw [if_pos e] at h; exact h
      · rename_i e
        rw [if_neg e] at h
        refine yet (ih _ _) (fun c r y h => ?_) h
        split
        · rename_i e; rw [if_pos e] at h; exact h
        · rename_i e; rw [if_neg e] at h; exact ih _ _ _ h
    | unary =>
      rw [PP] at h ⊢
      split
      · rename_i e; rw [if_pos e] at h; exact yet (ih _ _) (fun _ _ _ h => h) h
      · rename_i e
        rw [if_neg e] at h
        split
        · rename_i e; rw [if_pos e] at h; exact yet (ih _ _) (fun _ _ _ h => h) h
        · rename_i e; rw [if_neg e] at h; exact ih _ _ _ h
    | prim =>
      cases ts with
      | nil => exact h
      | cons t r =>
        simp only [PP] at h ⊢
        split
        · rename_i e; rw [if_pos e] at h; exact h
        · rename_i e
          rw [if_neg e] at h
          split
          · rename_i e; rw [if_pos e] at h; exact yet (ih _ _) (fun _ _ _ h => h) h
          · rename_i e
            rw [if_neg e] at h
            split
            · rename_i e; rw [if_pos e] at h; exact h
            · rename_i e
              rw [if_neg e] at h
              split
              · rename_i e; rw [if_pos e] at h; exact h
              · rename_i e
                rw [if_neg e] at h
                split
                · rename_i e; rw [if_pos e] at h; exact wantW_mono (fun r y h => yet (ih _ _) (fun _ _ _ h => h) h) h
                · rename_i e; rw [if_neg e] at h; exact h
theorem PP_mono {f g : Nat} {nt : NT} {ts : List PW} {res : Res} (h : PP nm names f nt ts = some res) (hg : f ≤ g) : PP nm names g nt ts = some res := by
  obtain ⟨d, rfl⟩ := Nat.exists_eq_add_of_le hg
  clear hg
  induction d with
  | zero => exact h
  | succ d ih => exact PP_succ _ _ _ _ ih
def Pars (nm : Bs → Bool) (names : List Bs) (nt : NT) (ts : List PW) (res : Res) : Prop := ∃ f, PP nm names f nt ts = some res
theorem Pars.det {nt : NT} {ts : List PW} {a b : Res} (ha : Pars nm names nt ts a) (hb : Pars nm names nt ts b) : a = b := by
  obtain ⟨f, hf⟩ := ha
  obtain ⟨g, hg⟩ := hb
  have h1 := PP_mono hf (Nat.le_max_left f g)
  rw [PP_mono hg (Nat.le_max_right f g)] at h1
  exact (Option.some.inj h1).symm
def NT.had : NT → Nat
  | .tail _ left => left.length
  | _ => 0
def NT.isTail : NT → Bool
  | .tail _ _ => true
  | _ => false
def Sp (nt : NT) (ts : List PW) : Res → Prop
  | .ok e r => r <:+ ts ∧ e.length + r.length ≤ ts.length + nt.had ∧ (nt.isTail = false → r.length < ts.length)
  | .bad c r => r <:+ ts ∧ (c = 4 ∨ c = 5) ∧ (r = [] → c = 4)
theorem headW_ne {ts : List PW} {w : Bs} (h : ybq ts = w) (hw : w ≠ []) : ∃ t r, ts = t :: r ∧ t.w = w := by
  cases ts with
  | nil => exact absurd h.symm hw
  | cons t r => exact ⟨t, r, rfl, h⟩
theorem find_ne {first : Int} {l : List Bs} {ts : List PW} (h : findL first l (ybq ts) ≠ 0) : ∃ t r, ts = t :: r := by
  cases ts with
  | nil => exact absurd rfl h
  | cons t r => exact ⟨t, r, rfl⟩
theorem var_sp (op : Int) (ts : List PW) : Sp .prim ts (varR nm names op ts) := by
  cases ts with
  | nil => exact ⟨List.suffix_refl _, .inl rfl, fun _ => rfl⟩
  | cons t r =>
    simp only [varR]
    split
    · split
      · exact ⟨List.suffix_cons _ _, by simp [NT.had]; omega, fun _ => by simp⟩
      · exact ⟨List.suffix_refl _, .inr rfl, fun h => by cases h⟩
    · exact ⟨List.suffix_refl _, .inl rfl, fun _ => rfl⟩
theorem near_sp (t : PW) (ts : List PW) : Sp .prim (t :: ts) (nearR nm names ts) := by
  unfold nearR
  split
  · rename_i h
    obtain ⟨t1, r, rfl, _⟩ := headW_ne h (by simp)
    by_cases h2 : fieldO (ybq (t1 :: r).tail) = 0
    · rw [if_pos h2]
      simp only [List.tail_cons]
      have := var_sp (nm := nm) (names := names) 12 r
      cases hv : varR nm names 12 r with
      | ok e r2 =>
        rw [hv] at this
        obtain ⟨h1, h2, h3⟩ := this
        exact ⟨h1.trans ((List.suffix_cons _ _).trans (List.suffix_cons _ _)), by simp only [List.length_cons, NT.had] at *; omega, fun _ => by have := h3 rfl; simp only [List.length_cons]; omega⟩
      | bad c r2 =>
        rw [hv] at this
        obtain ⟨h1, h2, h3⟩ := this
        exact ⟨h1.trans ((List.suffix_cons _ _).trans (List.suffix_cons _ _)), h2, h3⟩
    · rw [if_neg h2]
      simp only [List.tail_cons] at h2 ⊢
      obtain ⟨t2, r2, rfl⟩ := find_ne h2
      exact ⟨(List.suffix_cons _ _).trans ((List.suffix_cons _ _).trans (List.suffix_cons _ _)), by simp [NT.had]; omega, fun _ => by simp only [List.length_cons, List.tail_cons]; omega⟩
  · exact ⟨List.suffix_cons _ _, by simp [NT.had]; omega, fun _ => by simp⟩
theorem Sp.bad_mono {nt nt' : NT} {ts us : List PW} {c : Int} {r : List PW} (h : Sp nt ts (.bad c r)) (hs : ts <:+ us) : Sp nt' us (.bad c r) := ⟨h.1.trans hs, h.2⟩
theorem want_sp {w : Bs} {ts us : List PW} {k : List PW → Option Res} {nt : NT} {res : Res} (h : wantW w ts k = some res) (hs : ts <:+ us) (hk : ∀ t r, ts = t :: r → k r = some res → Sp nt us res) : Sp nt us res := by
  rcases wantW_some h with ⟨t, r, rfl, _, h2⟩ | ⟨_, rfl⟩
  · exact hk t r rfl h2
  · exact ⟨hs, .inl rfl, fun _ => rfl⟩
theorem yew : ∀ (f : Nat) (nt : NT) (ts : List PW) (res : Res), PP nm names f nt ts = some res → Sp nt ts res
  | 0, nt, ts, res, h => by cases h
  | f + 1, nt, ts, res, h => by
    have ih := yew f
    cases nt with
    | choice =>
      rw [PP] at h
      rcases ybx h with ⟨c, r, h1, h⟩ | ⟨c, r, h1, rfl⟩
      · obtain ⟨s1, s2, s3⟩ := ih _ _ _ h1
        have s3 := s3 rfl
        simp only [NT.had] at s2
        split at h
        · rename_i hq
          obtain ⟨t, r, rfl, _⟩ := headW_ne hq (by simp)
          simp only [List.tail_cons, List.length_cons] at h s2 s3
          rcases ybx h with ⟨y, r2, h2, h⟩ | ⟨c, r2, h2, rfl⟩
          · obtain ⟨u1, u2, u3⟩ := ih _ _ _ h2
            have u3 := u3 rfl
            simp only [NT.had] at u2
            refine want_sp h (u1.trans ((List.suffix_cons _ _).trans s1)) fun t2 r3 he hq2 => ?_
            subst he
            clear h
            have h := hq2
            simp only [List.length_cons] at u2 u3
            have hs3 := (List.suffix_cons t2 r3).trans (u1.trans ((List.suffix_cons _ _).trans s1))
            rcases ybx h with ⟨z, r4, h3, h⟩ | ⟨c, r4, h3, rfl⟩
            · obtain ⟨v1, v2, v3⟩ := ih _ _ _ h3
              have v3 := v3 rfl
              simp only [NT.had] at v2
              obtain rfl := (Option.some.inj h).symm
              exact ⟨v1.trans hs3, by simp only [List.length_cons, List.length_append, NT.had]; omega, fun _ => by omega⟩
            · exact (ih _ _ _ h3).bad_mono hs3
          · exact (ih _ _ _ h2).bad_mono ((List.suffix_cons _ _).trans s1)
        · obtain rfl := (Option.some.inj h).symm
          exact ⟨s1, by simp only [NT.had]; omega, fun _ => s3⟩
      · exact (ih _ _ _ h1).bad_mono (List.suffix_refl _)
    | bin l =>
      rw [PP] at h
      split at h
      · have := ih _ _ _ h
        cases res <;> exact this
      · rcases ybx h with ⟨c, r, h1, h⟩ | ⟨c, r, h1, rfl⟩
        · obtain ⟨s1, s2, s3⟩ := ih _ _ _ h1
          have s3 := s3 rfl
          simp only [NT.had] at s2
          have := ih _ _ _ h
          cases res with
          | ok e r2 =>
            obtain ⟨u1, u2, u3⟩ := this
            have := u1.length_le
            simp only [NT.had] at u2
            exact ⟨u1.trans s1, by simp only [NT.had]; omega, fun _ => by omega⟩
          | bad c r2 => exact this.bad_mono s1
        · exact (ih _ _ _ h1).bad_mono (List.suffix_refl _)
    | tail l left =>
      rw [PP] at h
      split at h
      · obtain rfl := (Option.some.inj h).symm
        exact ⟨List.suffix_refl _, by simp only [NT.had]; omega, fun h => by cases h⟩
      · rename_i hq
        obtain ⟨t, r, rfl⟩ := find_ne (fun e => hq (.inl e))
        simp only [List.tail_cons] at h
        rcases ybx h with ⟨c, r1, h1, h⟩ | ⟨c, r1, h1, rfl⟩
        · obtain ⟨s1, s2, s3⟩ := ih _ _ _ h1
          have s3 := s3 rfl
          simp only [NT.had] at s2
          split at h
          · obtain rfl := (Option.some.inj h).symm
            exact ⟨s1.trans (List.suffix_cons _ _), by simp only [NT.had, List.length_cons, List.length_append]; omega, fun h => by cases h⟩
          · have := ih _ _ _ h
            cases res with
            | ok e r2 =>
              obtain ⟨u1, u2, u3⟩ := this
              simp only [NT.had, List.length_cons, List.length_append] at u2
              exact ⟨u1.trans (s1.trans (List.suffix_cons _ _)), by simp only [NT.had, List.length_cons]; omega, fun h => by cases h⟩
            | bad c r2 => exact this.bad_mono (s1.trans (List.suffix_cons _ _))
        · exact (ih _ _ _ h1).bad_mono (List.suffix_cons _ _)
    | unary =>
      rw [PP] at h
      split at h
      · rename_i hq
        obtain ⟨t, r, rfl, _⟩ := headW_ne hq (by simp)
        simp only [List.tail_cons] at h
        rcases ybx h with ⟨c, r1, h1, h⟩ | ⟨c, r1, h1, rfl⟩
        · obtain ⟨s1, s2, s3⟩ := ih _ _ _ h1
          have s3 := s3 rfl
          simp only [NT.had] at s2
          obtain rfl := (Option.some.inj h).symm
          exact ⟨s1.trans (List.suffix_cons _ _), by simp only [NT.had, List.length_cons]; omega, fun _ => by simp only [List.length_cons]; omega⟩
        · exact (ih _ _ _ h1).bad_mono (List.suffix_cons _ _)
      · split at h
        · rename_i hq
          obtain ⟨t, r, rfl, _⟩ := headW_ne hq (by simp)
          simp only [List.tail_cons] at h
          rcases ybx h with ⟨c, r1, h1, h⟩ | ⟨c, r1, h1, rfl⟩
          · obtain ⟨s1, s2, s3⟩ := ih _ _ _ h1
            have s3 := s3 rfl
            simp only [NT.had] at s2
            obtain rfl := (Option.some.inj h).symm
            exact ⟨s1.trans (List.suffix_cons _ _), by simp only [NT.had, List.length_cons]; omega, fun _ => by simp only [List.length_cons]; omega⟩
          · exact (ih _ _ _ h1).bad_mono (List.suffix_cons _ _)
        · have := ih _ _ _ h
          cases res <;> exact this
    | prim =>
      cases ts with
      | nil =>
        obtain rfl := (Option.some.inj h).symm
        exact ⟨List.suffix_refl _, .inl rfl, fun _ => rfl⟩
      | cons t r =>
        simp only [PP] at h
        split at h
        · obtain rfl := (Option.some.inj h).symm
          exact ⟨List.suffix_cons _ _, by simp [NT.had]; omega, fun _ => by simp⟩
        · split at h
          · rcases ybx h with ⟨c, r1, h1, h⟩ | ⟨c, r1, h1, rfl⟩
            · obtain ⟨s1, s2, s3⟩ := ih _ _ _ h1
              have s3 := s3 rfl
              simp only [NT.had] at s2
              refine want_sp h (s1.trans (List.suffix_cons _ _)) fun t2 r3 he hq2 => ?_
              subst he
              clear h
              have h := hq2
              obtain rfl := (Option.some.inj h).symm
              simp only [List.length_cons] at s2 s3
              exact ⟨(List.suffix_cons _ _).trans (s1.trans (List.suffix_cons _ _)), by simp only [NT.had, List.length_cons]; omega, fun _ => by simp only [List.length_cons]; omega⟩
            · exact (ih _ _ _ h1).bad_mono (List.suffix_cons _ _)
          · split at h
            · obtain rfl := (Option.some.inj h).symm
              exact near_sp t r
            · split at h
              · obtain rfl := (Option.some.inj h).symm
                exact ⟨List.suffix_cons _ _, by simp [NT.had]; omega, fun _ => by simp⟩
              · split at h
                · refine want_sp h (List.suffix_cons _ _) fun t2 r2 he hq2 => ?_
                  subst he
                  clear h
                  have h := hq2
                  have hs := (List.suffix_cons t2 r2).trans (List.suffix_cons t _)
                  rcases ybx h with ⟨c, r3, h1, h⟩ | ⟨c, r3, h1, rfl⟩
                  · obtain ⟨s1, s2, s3⟩ := ih _ _ _ h1
                    have s3 := s3 rfl
                    simp only [NT.had] at s2
                    refine want_sp h (s1.trans hs) fun t4 r4 he hq2 => ?_
                    subst he
                    clear h
                    have h := hq2
                    obtain rfl := (Option.some.inj h).symm
                    simp only [List.length_cons] at s2 s3
                    exact ⟨(List.suffix_cons _ _).trans (s1.trans hs), by simp only [NT.had, List.length_cons]; omega, fun _ => by simp only [List.length_cons]; omega⟩
                  · exact (ih _ _ _ h1).bad_mono hs
                · obtain rfl := (Option.some.inj h).symm
                  exact var_sp 5 (t :: r)
theorem Pars.sp {nt : NT} {ts : List PW} {res : Res} (h : Pars nm names nt ts res) : Sp nt ts res := let ⟨f, hf⟩ := h; yew f _ _ _ hf
def rankN : NT → Nat
  | .choice => 9
  | .bin l => 9 - l
  | .tail _ _ => 1
  | .unary => 2
  | .prim => 1
theorem ydw {x : Option Res} {k : List Tm → List PW → Option Res} (hx : ∃ y, x = some y) (hk : ∀ e r, x = some (.ok e r) → ∃ y, k e r = some y) : ∃ y, andR x k = some y := by
  obtain ⟨y, rfl⟩ := hx
  cases y with
  | ok e r => exact hk e r rfl
  | bad c r => exact ⟨_, rfl⟩
theorem wantW_total {w : Bs} {ts : List PW} {k : List PW → Option Res} (hk : ∀ t r, ts = t :: r → ∃ y, k r = some y) : ∃ y, wantW w ts k = some y := by
  cases ts with
  | nil => exact ⟨_, rfl⟩
  | cons t r =>
    simp only [wantW]
    split
    · exact hk t r rfl
    · exact ⟨_, rfl⟩
theorem PP_total : ∀ (f : Nat) (nt : NT) (ts : List PW), (∀ l, nt = .bin l → l ≤ 6) → (∀ l left, nt = .tail l left → l ≤ 5) → 10 * ts.length + rankN nt ≤ f → ∃ y, PP nm names f nt ts = some y
  | 0, nt, ts, hl, ht, h => by
    cases nt with
    | bin l => have := hl l rfl; simp only [rankN] at h; omega
    | _ => simp only [rankN] at h; omega
  | f + 1, nt, ts, hl, ht, h => by
    have ih := fun nt ts a b c => PP_total f nt ts a b c
    have nb : ∀ {nt : NT}, (∀ l, nt ≠ .bin l) → ∀ l, nt = .bin l → l ≤ 6 := fun h l e => absurd e (h l)
    have ntl : ∀ {nt : NT}, (∀ l x, nt ≠ .tail l x) → ∀ l x, nt = .tail l x → l ≤ 5 := fun h l x e => absurd e (h l x)
    cases nt with
    | choice =>
      rw [PP]
      simp only [rankN] at h
      refine ydw (ih _ _ (fun l e => by cases e; omega) (ntl (by simp)) (by simp only [rankN]; omega)) fun c r h1 => ?_
      have s := (yew _ _ _ _ h1).2.2 rfl
      split
      · rename_i hq
        obtain ⟨t, r, rfl, _⟩ := headW_ne hq (by simp)
        simp only [List.length_cons, List.tail_cons] at s ⊢
        refine ydw (ih _ _ (nb (by simp)) (ntl (by simp)) (by simp only [rankN]; omega)) fun y r2 h2 => wantW_total fun t3 r3 he => ?_
        have s2 := (yew _ _ _ _ h2).2.2 rfl
        subst he
        simp only [List.length_cons] at s2
        exact ydw (ih _ _ (nb (by simp)) (ntl (by simp)) (by simp only [rankN]; omega)) fun z r4 h3 => ⟨_, rfl⟩
      · exact ⟨_, rfl⟩
    | bin l =>
      have hl6 := hl l rfl
      rw [PP]
      simp only [rankN] at h
      split
      · exact ih _ _ (nb (by simp)) (ntl (by simp)) (by simp only [rankN]; omega)
      · refine ydw (ih _ _ (fun l' e => by cases e; omega) (ntl (by simp)) (by simp only [rankN]; omega)) fun c r h1 => ?_
        have s := (yew _ _ _ _ h1).2.2 rfl
        exact ih _ _ (nb (by simp)) (fun l' x e => by cases e; omega) (by simp only [rankN]; omega)
    | tail l left =>
      have hl5 := ht l left rfl
      rw [PP]
      simp only [rankN] at h
      split
      · exact ⟨_, rfl⟩
      · rename_i hq
        obtain ⟨t, r, rfl⟩ := find_ne (fun e => hq (.inl e))
        simp only [List.tail_cons, List.length_cons] at h ⊢
        refine ydw (ih _ _ (fun l' e => by cases e; omega) (ntl (by simp)) (by simp only [rankN]; omega)) fun c r1 h1 => ?_
        have s := (yew _ _ _ _ h1).2.2 rfl
        split
        · exact ⟨_, rfl⟩
        · exact ih _ _ (nb (by simp)) (fun l' x e => by cases e; omega) (by simp only [rankN]; omega)
    | unary =>
      rw [PP]
      simp only [rankN] at h
      split
      · rename_i hq
        obtain ⟨t, r, rfl, _⟩ := headW_ne hq (by simp)
        simp only [List.tail_cons, List.length_cons] at h ⊢
        exact ydw (ih _ _ (nb (by simp)) (ntl (by simp)) (by simp only [rankN]; omega)) fun z r4 h3 => ⟨_, rfl⟩
      · split
        · rename_i hq
          obtain ⟨t, r, rfl, _⟩ := headW_ne hq (by simp)
          simp only [List.tail_cons, List.length_cons] at h ⊢
          exact ydw (ih _ _ (nb (by simp)) (ntl (by simp)) (by simp only [rankN]; omega)) fun z r4 h3 => ⟨_, rfl⟩
        · exact ih _ _ (nb (by simp)) (ntl (by simp)) (by simp only [rankN]; omega)
    | prim =>
      cases ts with
      | nil => exact ⟨_, rfl⟩
      | cons t r =>
        simp only [PP]
        simp only [rankN, List.length_cons] at h
        split
        · exact ⟨_, rfl⟩
        · split
          · exact ydw (ih _ _ (nb (by simp)) (ntl (by simp)) (by simp only [rankN]; omega)) fun z r4 h3 => wantW_total fun t3 r3 he => ⟨_, rfl⟩
          · split
            · exact ⟨_, rfl⟩
            · split
              · exact ⟨_, rfl⟩
              · split
                · refine wantW_total fun t2 r2 he => ?_
                  subst he
                  simp only [List.length_cons] at h
                  exact ydw (ih _ _ (nb (by simp)) (ntl (by simp)) (by simp only [rankN]; omega)) fun z r4 h3 => wantW_total fun t3 r3 he => ⟨_, rfl⟩
                · exact ⟨_, rfl⟩
theorem pars_total (ts : List PW) : ∃ res, Pars nm names .choice ts res := by
  obtain ⟨y, hy⟩ := PP_total (nm := nm) (names := names) (10 * ts.length + 9) .choice ts (fun l e => by cases e) (fun l x e => by cases e) (Nat.le_refl _)
  exact ⟨y, _, hy⟩
end Go.Proofs.YtcpgpiabeimefaaDoor
set_option linter.unusedVariables false
namespace Go.Proofs.YtcpgpiabeimefaaDoor

abbrev dec (v : Nat) : Bs := Lib.decDigits v
theorem dec_small {v : Nat} (h : v < 10) : dec v = [UInt8.ofNat (48 + v)] := by unfold dec; rw [Lib.decDigits, dif_pos h]
theorem dec_big {v : Nat} (h : ¬ v < 10) : dec v = dec (v / 10) ++ [UInt8.ofNat (48 + v % 10)] := by unfold dec; rw [Lib.decDigits, dif_neg h]
theorem digit_nat {d : Nat} (h : d < 10) : (UInt8.ofNat (48 + d)).toNat = 48 + d := by
  rw [UInt8.toNat_ofNat']; omega
theorem dec_digits (v : Nat) : ∀ c ∈ dec v, 48 ≤ c.toNat ∧ c.toNat ≤ 57 := by
  induction v using Nat.strongRecOn with
  | ind v ih =>
    intro c hc
    by_cases h : v < 10
    · rw [dec_small h] at hc
      simp only [List.mem_singleton] at hc
      subst hc
      rw [digit_nat h]; omega
    · rw [dec_big h] at hc
      rcases List.mem_append.1 hc with hc | hc
      · exact ih (v / 10) (by omega) c hc
      · simp only [List.mem_singleton] at hc
        subst hc
        rw [digit_nat (by omega)]; omega
theorem dec_pos (v : Nat) : 1 ≤ (dec v).length := by
  by_cases h : v < 10
  · rw [dec_small h]; simp
  · rw [dec_big h]; simp
theorem dec_len : ∀ (k v : Nat), 1 ≤ k → v < 10 ^ k → (dec v).length ≤ k
  | 0, v, h, _ => by omega
  | k + 1, v, _, hv => by
    by_cases h : v < 10
    · rw [dec_small h]; simp
    · rw [dec_big h]
      have hk : 1 ≤ k := by
        rcases Nat.eq_zero_or_pos k with h0 | h0
        · subst h0; simp at hv; omega
        · exact h0
      have := dec_len k (v / 10) hk (by rw [Nat.pow_succ] at hv; omega)
      simp; omega
end Go.Proofs.YtcpgpiabeimefaaDoor
set_option linter.unusedVariables false
namespace Go.Proofs.YtcpgpiabeimefaaDoor
variable {nm : Bs → Bool} {names : List Bs}
theorem p_bin6 {ts : List PW} {res : Res} (h1 : Pars nm names .unary ts res) : Pars nm names (.bin 6) ts res := by
  obtain ⟨f1, h1⟩ := h1
  exact ⟨f1 + 1, by rw [PP, if_pos (by omega), h1]⟩
theorem p_tail0 {l : Nat} {ts : List PW} {left : List Tm} (h : binO (ybq ts) = 0 ∨ yej (binO (ybq ts)) ≠ l) : Pars nm names (.tail l left) ts (.ok left ts) := ⟨1, by rw [PP, if_pos h]⟩
def pwS (w : Bs) : PW := ⟨w, 3, 0⟩
def pwN (w : Bs) : PW := ⟨w, 1, 0⟩
def pwV (n : Nat) : PW := ⟨dec n, 2, n⟩
inductive Wr (names : List Bs) : Nat → Ex → Bs → List PW → Prop
  | down {l : Nat} {E : Ex} {x : Bs} {ws : List PW} (hl : l < 7) (h : Wr names (l + 1) E x ws) : Wr names l E x ws
  | paren {E : Ex} {x : Bs} {ws : List PW} (h : Wr names 0 E x ws) : Wr names 7 E (40 :: (x ++ [41])) (pwS [40] :: (ws ++ [pwS [41]]))
  | choice {a b c : Ex} {xa xb xc : Bs} {wa wb wc : List PW} (ha : Wr names 1 a xa wa) (hb : Wr names 0 b xb wb) (hc : Wr names 0 c xc wc) : Wr names 0 (.tr (43, 0) a b c) (xa ++ (32 :: 63 :: 32 :: (xb ++ (32 :: 58 :: 32 :: xc)))) (wa ++ (pwS [63] :: (wb ++ (pwS [58] :: wc))))
  | bin {op : Int} {l : Nat} {w : Bs} {a b : Ex} {xa xb : Bs} {wa wb : List PW} (h0 : binO w = op) (hw : w ∈ binL) (hl : yej op = l) (h3 : l ≠ 3) (ha : Wr names l a xa wa) (hb : Wr names (l + 1) b xb wb) : Wr names l (.bi (op, 0) a b) (xa ++ (32 :: (w ++ (32 :: xb)))) (wa ++ (pwS w :: wb))
  | cmp {op : Int} {w : Bs} {a b : Ex} {xa xb : Bs} {wa wb : List PW} (h0 : binO w = op) (hw : w ∈ binL) (hl : yej op = 3) (ha : Wr names 4 a xa wa) (hb : Wr names 4 b xb wb) : Wr names 3 (.bi (op, 0) a b) (xa ++ (32 :: (w ++ (32 :: xb)))) (wa ++ (pwS w :: wb))
  | neg {a : Ex} {xa : Bs} {wa : List PW} (ha : Wr names 6 a xa wa) : Wr names 6 (.un (18, 0) a) (45 :: xa) (pwS [45] :: wa)
  | not {a : Ex} {xa : Bs} {wa : List PW} (ha : Wr names 6 a xa wa) : Wr names 6 (.un (19, 0) a) (33 :: xa) (pwS [33] :: wa)
  | agg {op : Int} {w : Bs} {a : Ex} {xa : Bs} {wa : List PW} (h0 : aggO w = op) (hw : w ∈ aggL) (ha : Wr names 0 a xa wa) : Wr names 7 (.un (op, 0) a) (w ++ (40 :: (xa ++ [41]))) (pwN w :: pwS [40] :: (wa ++ [pwS [41]]))
  | num {n : Nat} (hn : n ≤ 1073741824) : Wr names 7 (.lf (1, n)) (dec n) [pwV n]
  | own {i : Nat} {w : Bs} (h : names[i]? = some w) : Wr names 7 (.lf (5, i)) w [pwN w]
  | near {i : Nat} {w : Bs} (h : names[i]? = some w) : Wr names 7 (.lf (12, i)) (113 :: 46 :: w) [pwN [113], pwS [46], pwN w]
  | here : Wr names 7 (.lf (11, 0)) [113] [pwN [113]]
  | const {op : Int} {w : Bs} (h0 : constO w = op) (hw : w ∈ constL) (hne : w ≠ []) : Wr names 7 (.lf (op, 0)) w [pwN w]
  | field {op : Int} {w : Bs} (h0 : fieldO w = op) (hw : w ∈ fieldL) : Wr names 7 (.lf (op, 0)) (113 :: 46 :: w) [pwN [113], pwS [46], pwN w]
structure NmOk (nm : Bs → Bool) (names : List Bs) : Prop where
  good : ∀ w ∈ names, nm w = true
  nodup : names.Nodup
  res : ∀ w, nm w = true → constO w = 0 ∧ aggO w = 0 ∧ fieldO w = 0 ∧ w ≠ [113] ∧ w ≠ [40] ∧ w ≠ [45] ∧ w ≠ [33]
theorem idxW_of : ∀ {l : List Bs} {i : Nat} {w : Bs}, idxW l w = some i → l[i]? = some w
  | [], i, w, h => by cases h
  | x :: l, i, w, h => by
    rw [idxW] at h
    split at h
    · rename_i e; cases h; simp [e]
    · cases hq : idxW l w with
      | none => rw [hq] at h; cases h
      | some j => rw [hq] at h; cases h; simpa using idxW_of hq
theorem idxW_mem : ∀ {l : List Bs} {w : Bs} {i : Nat}, idxW l w = some i → w ∈ l := fun h => List.mem_of_getElem? (idxW_of h)
theorem find_mem {first : Int} {l : List Bs} {w : Bs} (h : findL first l w ≠ 0) : w ∈ l ∧ w ≠ [] := by
  unfold findL at h
  split at h
  · exact absurd rfl h
  · rename_i hne
    cases hi : idxW l w with
    | none => rw [hi] at h; exact absurd rfl h
    | some i => exact ⟨idxW_mem hi, hne⟩
def Fol (l : Nat) (r : List PW) : Prop := (l = 0 → ybq r ≠ [63]) ∧ ybq r ≠ [46] ∧ (binO (ybq r) = 0 ∨ yej (binO (ybq r)) < l)
def FolW (l : Nat) (r : List PW) : Prop := ybq r ≠ [46] ∧ (binO (ybq r) = 0 ∨ yej (binO (ybq r)) < l ∨ (yej (binO (ybq r)) = l ∧ l ≠ 3))
theorem Fol.weak {l : Nat} {r : List PW} (h : Fol l r) : FolW l r := ⟨h.2.1, h.2.2.imp id .inl⟩
def Ans (nm : Bs → Bool) (names : List Bs) (l : Nat) (e : List Tm) (ws : List PW) : Prop :=
  (l = 0 → ∀ r, Fol 0 r → Pars nm names .choice (ws ++ r) (.ok e r)) ∧
  (1 ≤ l → l ≤ 5 → ∀ r res, FolW l r → Pars nm names (.tail l e) r res → Pars nm names (.bin l) (ws ++ r) res) ∧
  (l = 6 → ∀ r, ybq r ≠ [46] → Pars nm names .unary (ws ++ r) (.ok e r)) ∧
  (l = 7 → (∀ r, ybq r ≠ [46] → Pars nm names .prim (ws ++ r) (.ok e r)) ∧ ybq ws ≠ [45] ∧ ybq ws ≠ [33] ∧ ws ≠ [])
theorem Ans.full {l : Nat} {e : List Tm} {ws : List PW} (h : Ans nm names l e ws) (h1 : 1 ≤ l) (h5 : l ≤ 5) {r : List PW} (hr : Fol l r) : Pars nm names (.bin l) (ws ++ r) (.ok e r) :=
  h.2.1 h1 h5 r _ hr.weak (p_tail0 (hr.2.2.imp id (by omega)))
theorem Ans.bin {l : Nat} {e : List Tm} {ws : List PW} (h : Ans nm names l e ws) (h1 : 1 ≤ l) (h5 : l ≤ 6) {r : List PW} (hr : Fol l r) : Pars nm names (.bin l) (ws ++ r) (.ok e r) := by
  by_cases e : l = 6
  · subst e; exact p_bin6 (h.2.2.1 rfl r hr.2.1)
  · exact h.full h1 (by omega) hr
end Go.Proofs.YtcpgpiabeimefaaDoor
namespace Go.Proofs.YtcpgpiabeimefaaDoor
open Go.RowKit

def ybo : Bool → List UInt8 → Nat
  | _, [] => 0
  | true, c :: r => if c = 10 then 1 + ybo false r else 1 + ybo true r
  | false, c :: r => if c = 32 ∨ c = 9 ∨ c = 10 ∨ c = 13 then 1 + ybo false r else if c = 35 then 1 + ybo true r else 0

def yah (s : ByteArray) (k : Nat) : List UInt8 := s.data.toList.drop k
def yaw (s : ByteArray) (b : Bool) (a : Nat) : Nat := a + ybo b (yah s a)

theorem ybf (s : ByteArray) (k : Nat) (h : k < s.size) : yah s k = s[k] :: yah s (k + 1) := by
  unfold yah
  rw [List.drop_eq_getElem_cons (by simpa using h)]; rfl
theorem bytesFrom_ge (s : ByteArray) (k : Nat) (h : s.size ≤ k) : yah s k = [] := by
  unfold yah
  exact List.drop_eq_nil_of_le (by simpa using h)
theorem bytesFrom_drop (s : ByteArray) (k n : Nat) : (yah s k).drop n = yah s (k + n) := by
  unfold yah; rw [List.drop_drop]
theorem ybd (s : ByteArray) (k : Nat) : (yah s k).length = s.size - k := by
  unfold yah; simp
theorem skipTo_blank (s : ByteArray) (k : Nat) (h : k < s.size) (hc : s[k] = 32 ∨ s[k] = 9 ∨ s[k] = 10 ∨ s[k] = 13) : yaw s false k = yaw s false (k + 1) := by
  unfold yaw; rw [ybf s k h, ybo, if_pos hc]; omega
theorem skipTo_hash (s : ByteArray) (k : Nat) (h : k < s.size) (hc : s[k] = 35) : yaw s false k = yaw s true k := by
  unfold yaw; rw [ybf s k h, ybo, ybo, if_neg (by rw [hc]; decide), if_pos hc, if_neg (by rw [hc]; decide)]
theorem skipTo_stop (s : ByteArray) (k : Nat) (h : k < s.size) (hc : ¬ (s[k] = 32 ∨ s[k] = 9 ∨ s[k] = 10 ∨ s[k] = 13)) (h35 : ¬ s[k] = 35) : yaw s false k = k := by
  unfold yaw; rw [ybf s k h, ybo, if_neg hc, if_neg h35]; rfl
theorem skipTo_in (s : ByteArray) (k : Nat) (h : k < s.size) (hc : ¬ s[k] = 10) : yaw s true k = yaw s true (k + 1) := by
  unfold yaw; rw [ybf s k h, ybo, if_neg hc]; omega
theorem skipTo_nl (s : ByteArray) (k : Nat) (h : k < s.size) (hc : s[k] = 10) : yaw s true k = yaw s false k := by
  unfold yaw; rw [ybf s k h, ybo, ybo, if_pos hc, if_pos (by simp [hc])]
theorem skipTo_end (s : ByteArray) (k : Nat) (b : Bool) (h : s.size ≤ k) : yaw s b k = k := by
  unfold yaw; rw [bytesFrom_ge s k h]; cases b <;> rfl
theorem skipL_le (b : Bool) (r : List UInt8) : ybo b r ≤ r.length := by
  induction r generalizing b with
  | nil => cases b <;> simp [ybo]
  | cons c r ih =>
    have h1 := ih true
    have h2 := ih false
    cases b <;> simp only [ybo, List.length_cons] <;> repeat' split
    all_goals omega
theorem yfj (s : ByteArray) (b : Bool) (k : Nat) (h : k ≤ s.size) : k ≤ yaw s b k ∧ yaw s b k ≤ s.size := by
  have := skipL_le b (yah s k)
  rw [ybd] at this
  unfold yaw; omega

def ycb (c : UInt8) : Bool := (97 ≤ c && c ≤ 122) || (65 ≤ c && c ≤ 90)
def yba (c : UInt8) : Bool := 48 ≤ c && c ≤ 57
def yda (c : UInt8) : Bool := ycb c || yba c || c == 95

def runL (p : UInt8 → Bool) : List UInt8 → Nat
  | [] => 0
  | c :: r => if p c then 1 + runL p r else 0
def yct (p : UInt8 → Bool) (s : ByteArray) (a : Nat) : Nat := a + runL p (yah s a)
theorem runL_le (p : UInt8 → Bool) (r : List UInt8) : runL p r ≤ r.length := by
  induction r with
  | nil => simp [runL]
  | cons c r ih => simp only [runL, List.length_cons]; split <;> omega
theorem runTo_bd (p : UInt8 → Bool) (s : ByteArray) (k : Nat) (h : k ≤ s.size) : k ≤ yct p s k ∧ yct p s k ≤ s.size := by
  have := runL_le p (yah s k)
  rw [ybd] at this
  unfold yct; omega
theorem runTo_yes (p : UInt8 → Bool) (s : ByteArray) (k : Nat) (h : k < s.size) (hp : p s[k] = true) : yct p s k = yct p s (k + 1) := by
  unfold yct; rw [ybf s k h, runL, if_pos hp]; omega
theorem runTo_no (p : UInt8 → Bool) (s : ByteArray) (k : Nat) (h : k < s.size) (hp : p s[k] = false) : yct p s k = k := by
  unfold yct; rw [ybf s k h, runL, if_neg (by simp [hp])]; rfl
theorem runTo_end (p : UInt8 → Bool) (s : ByteArray) (k : Nat) (h : s.size ≤ k) : yct p s k = k := by
  unfold yct; rw [bytesFrom_ge s k h]; rfl
theorem runTo_pos (p : UInt8 → Bool) (s : ByteArray) (k : Nat) (h : k < s.size) (hp : p s[k] = true) : k < yct p s k := by
  rw [runTo_yes p s k h hp]; have := runTo_bd p s (k + 1) (by omega); omega

def dig (v : Nat) (c : UInt8) : Nat := 10 * v + (c.toNat - 48)
def numL (v : Nat) (ds : List UInt8) : Nat := ds.foldl dig v
theorem numL_nil (v : Nat) : numL v [] = v := by unfold numL; rw [List.foldl_nil]
theorem numL_cons (v : Nat) (c : UInt8) (r : List UInt8) : numL v (c :: r) = numL (dig v c) r := by unfold numL; rw [List.foldl_cons]
theorem numL_snoc (v : Nat) (c : UInt8) (r : List UInt8) : numL v (r ++ [c]) = dig (numL v r) c := by unfold numL; rw [List.foldl_append, List.foldl_cons, List.foldl_nil]
theorem dig_ge (v : Nat) (c : UInt8) : 10 * v ≤ dig v c := by unfold dig; exact Nat.le_add_right _ _
theorem dig_le (v : Nat) (c : UInt8) (h : yba c = true) : dig v c ≤ 10 * v + 9 := by
  simp only [yba, Bool.and_eq_true, decide_eq_true_eq, UInt8.le_iff_toNat_le] at h
  have h3 : c.toNat ≤ 57 := h.2
  unfold dig
  generalize c.toNat = d at *
  omega
theorem numL_mono (r : List UInt8) : ∀ v : Nat, v ≤ numL v r := by
  induction r with
  | nil => intro v; rw [numL_nil]; exact Nat.le_refl _
  | cons c r ih =>
    intro v
    rw [numL_cons]
    have := dig_ge v c
    exact Nat.le_trans (by omega) (ih (dig v c))
theorem numL_pow (r : List UInt8) : ∀ v : Nat, v * 10 ^ r.length ≤ numL v r := by
  induction r with
  | nil => intro v; rw [numL_nil]; simp
  | cons c r ih =>
    intro v
    rw [numL_cons, List.length_cons, Nat.pow_succ, Nat.mul_comm (10 ^ r.length) 10, ← Nat.mul_assoc, Nat.mul_comm v 10]
    exact Nat.le_trans (Nat.mul_le_mul_right _ (dig_ge v c)) (ih (dig v c))
theorem numL_lt (r : List UInt8) : ∀ v : Nat, (∀ c ∈ r, yba c = true) → numL v r < (v + 1) * 10 ^ r.length := by
  induction r with
  | nil => intro v _; rw [numL_nil]; simp
  | cons c r ih =>
    intro v hd
    have h1 := ih (dig v c) (fun c hc => hd c (List.mem_cons_of_mem _ hc))
    have h2 := dig_le v c (hd c (List.mem_cons_self ..))
    rw [numL_cons]
    refine Nat.lt_of_lt_of_le h1 ?_
    rw [List.length_cons, Nat.pow_succ, Nat.mul_comm (10 ^ r.length) 10, ← Nat.mul_assoc]
    exact Nat.mul_le_mul_right _ (by omega)

def yfi (ds : List UInt8) : Option Nat := if (1 < ds.length ∧ ds.head? = some 48) ∨ 1073741824 < numL 0 ds then none else some (numL 0 ds)

theorem numL_take (ds : List UInt8) (k v : Nat) : numL v (ds.take k) ≤ numL v ds := by
  have h : numL v ds = numL (numL v (ds.take k)) (ds.drop k) := by unfold numL; rw [← List.foldl_append, List.take_append_drop]
  rw [h]; exact numL_mono _ _
theorem numRes_big (ds : List UInt8) (k : Nat) (h : 1073741824 < numL 0 (ds.take k)) : yfi ds = none := by
  have := numL_take ds k 0
  unfold yfi; rw [if_pos (.inr (by omega))]
theorem numRes_zero (ds : List UInt8) (h : 1 < ds.length) (h0 : ds.head? = some 48) : yfi ds = none := by
  unfold yfi; rw [if_pos (.inl ⟨h, h0⟩)]
theorem numRes_ok (ds : List UInt8) (h : ¬ (1 < ds.length ∧ ds.head? = some 48)) (h0 : numL 0 ds ≤ 1073741824) : yfi ds = some (numL 0 ds) := by
  unfold yfi; rw [if_neg (fun hq => hq.elim h (fun h1 => by omega))]
theorem numRes_no (ds : List UInt8) (h0 : 1073741824 < numL 0 ds) : yfi ds = none := by
  unfold yfi; rw [if_pos (.inr h0)]
theorem numRes_long (ds : List UInt8) (hd : ∀ c ∈ ds, yba c = true) (h : 10 < ds.length) : yfi ds = none := by
  cases ds with
  | nil => simp at h
  | cons c r =>
    by_cases h48 : c = 48
    · exact numRes_zero _ (by omega) (by simp [h48])
    · refine numRes_no _ ?_
      rw [numL_cons]
      have h1 := hd c (List.mem_cons_self ..)
      simp only [yba, Bool.and_eq_true, decide_eq_true_eq, UInt8.le_iff_toNat_le] at h1
      have h2 : 1 ≤ dig 0 c := by
        have h3 : 48 ≤ c.toNat := h1.1
        have h4 : c.toNat ≠ 48 := fun h5 => h48 (by rw [← UInt8.toNat_inj]; exact h5)
        unfold dig
        generalize c.toNat = d at *
        omega
      have h5 := numL_pow r (dig 0 c)
      have h6 : 10 ^ 10 ≤ 10 ^ r.length := Nat.pow_le_pow_right (by omega) (by simp at h; omega)
      have h7 : 1 * 10 ^ r.length ≤ dig 0 c * 10 ^ r.length := Nat.mul_le_mul_right _ h2
      rw [Nat.one_mul] at h7
      have h8 : (10 : Nat) ^ 10 = 10000000000 := by decide
      rw [h8] at h6
      exact Nat.lt_of_lt_of_le (Nat.lt_of_lt_of_le (by decide) h6) (Nat.le_trans h7 h5)
theorem take_snoc (s : ByteArray) (k : Nat) (h : k < s.size) : (yah s 0).take (k + 1) = (yah s 0).take k ++ [s[k]] := by
  unfold yah
  rw [List.drop_zero, List.take_succ_eq_append_getElem (by simpa using h)]; rfl
theorem take_all (s : ByteArray) (k : Nat) (h : s.size ≤ k) : (yah s 0).take k = yah s 0 := by
  rw [List.take_of_length_le]; rw [ybd]; omega
theorem mem_bytes (s : ByteArray) (k : Nat) (h : k < s.size) : s[k] ∈ yah s 0 := by
  unfold yah
  rw [List.drop_zero, Array.mem_toList_iff]
  exact Array.getElem_mem (xs := s.data) h
theorem head_bytes (s : ByteArray) (h : 0 < s.size) : (yah s 0).head? = some s[0] := by rw [ybf s 0 h]; rfl
theorem digit_bd (c : UInt8) (h : yba c = true) : 48 ≤ c.toNat ∧ c.toNat ≤ 57 := by
  simpa [yba, UInt8.le_iff_toNat_le] using h
theorem num_take_bd (ds : List UInt8) (k : Nat) (hd : ∀ c ∈ ds, yba c = true) (h : ds.length ≤ 10) : numL 0 (ds.take k) ≤ 9999999999 := by
  have h1 := numL_lt (ds.take k) 0 (fun c hc => hd c (List.mem_of_mem_take hc))
  have h2 : 10 ^ (ds.take k).length ≤ 10 ^ 10 := Nat.pow_le_pow_right (by omega) (by rw [List.length_take]; omega)
  have h3 : (10 : Nat) ^ 10 = 10000000000 := by decide
  rw [h3] at h2
  rw [Nat.zero_add, Nat.one_mul] at h1
  omega
theorem num_step (s : ByteArray) (k : Nat) (h : k < s.size) : numL 0 ((yah s 0).take (k + 1)) = dig (numL 0 ((yah s 0).take k)) s[k] := by
  rw [take_snoc s k h, numL_snoc]
theorem dig_int (n : Nat) (c : UInt8) (h : 48 ≤ c.toNat) : ((dig n c : Nat) : Int) = 10 * (n : Int) + ((c.toNat : Int) - 48) := by unfold dig; omega

def sign2B (a b : UInt8) : Bool :=
  (a == 46 && b == 46) || (a == 45 && b == 62) || (a == 58 && b == 61) || (a == 38 && b == 38) || (a == 124 && b == 124) || (a == 61 && b == 61) || (a == 33 && b == 61) || (a == 60 && b == 61) || (a == 62 && b == 61)
def sign1B (a : UInt8) : Bool := [59, 58, 44, 40, 41, 46, 63, 60, 62, 43, 45, 42, 47, 37, 33].contains a
def ydd : List UInt8 → Nat
  | a :: b :: _ => if sign2B a b then 2 else if sign1B a then 1 else 0
  | [a] => if sign1B a then 1 else 0
  | [] => 0
theorem signL_le (r : List UInt8) : ydd r ≤ r.length := by
  match r with
  | [] => simp [ydd]
  | [a] => simp only [ydd, List.length_cons, List.length_nil]; split <;> omega
  | a :: b :: r => simp only [ydd, List.length_cons]; repeat' split
                   all_goals omega

structure Tok where
  kind : Nat
  from_ : Nat
  to : Nat
  num : Nat

def tokL (r : List UInt8) : Except Nat (Nat × Nat × Nat) :=
  match r with
  | [] => .error 4
  | c :: _ =>
    if ycb c then (if 24 < runL yda r then .error 5 else .ok (1, runL yda r, 0))
    else if yba c then (match yfi (r.take (runL yba r)) with | none => .error 2 | some v => .ok (2, runL yba r, v))
    else if ydd r = 0 then .error 4 else .ok (3, ydd r, 0)

theorem runL_pos (p : UInt8 → Bool) (c : UInt8) (r : List UInt8) (h : p c = true) : 1 ≤ runL p (c :: r) := by
  simp [runL, h]
theorem tokL_bd {r : List UInt8} {k n v : Nat} (h : tokL r = .ok (k, n, v)) : 1 ≤ n ∧ n ≤ r.length ∧ v ≤ 1073741824 ∧ 1 ≤ k ∧ k ≤ 3 := by
  match r with
  | [] => simp [tokL] at h
  | c :: r =>
    simp only [tokL] at h
    have h1 := runL_le yda (c :: r)
    have h2 := runL_le yba (c :: r)
    have h3 := signL_le (c :: r)
    by_cases hl : ycb c = true
    · rw [if_pos hl] at h
      have h4 := runL_pos yda c r (by simp [yda, hl])
      split at h <;> simp at h
      omega
    · rw [if_neg hl] at h
      by_cases hd : yba c = true
      · rw [if_pos hd] at h
        have h4 := runL_pos yba c r hd
        generalize hq : yfi ((c :: r).take (runL yba (c :: r))) = q at h
        cases q with
        | none => simp at h
        | some u =>
          simp only [yfi] at hq
          split at hq <;> simp at hq h
          omega
      · rw [if_neg hd] at h
        split at h <;> simp at h
        omega

def consTok (t : Tok) : Except (Nat × Nat) (List Tok) → Except (Nat × Nat) (List Tok)
  | .error e => .error e
  | .ok ts => .ok (t :: ts)

def ydc : Nat → Nat → List UInt8 → Except (Nat × Nat) (List Tok)
  | 0, p, r => if r.drop (ybo false r) = [] then .ok [] else .error (p + ybo false r, 3)
  | left + 1, p, r =>
    if r.drop (ybo false r) = [] then .ok [] else
    match tokL (r.drop (ybo false r)) with
    | .error e => .error (p + ybo false r, e)
    | .ok (k, n, v) => consTok ⟨k, p + ybo false r, p + ybo false r + n, v⟩ (ydc left (p + ybo false r + n) ((r.drop (ybo false r)).drop n))

def ydh (s : ByteArray) : Except (Nat × Nat) (List Tok) := if 16384 < s.size then .error (0, 3) else ydc 4096 0 (yah s 0)

def joinTok (out : List Tok) : Except (Nat × Nat) (List Tok) → Except (Nat × Nat) (List Tok)
  | .error e => .error e
  | .ok ts => .ok (out ++ ts)
theorem joinTok_cons (out : List Tok) (t : Tok) (x : Except (Nat × Nat) (List Tok)) : joinTok out (consTok t x) = joinTok (out ++ [t]) x := by
  cases x <;> simp [joinTok, consTok]
theorem joinTok_nil (x : Except (Nat × Nat) (List Tok)) : joinTok [] x = x := by cases x <;> rfl

def ydn (s : ByteArray) (out : List Tok) (p : Nat) : Except (Nat × Nat) (List Tok) := joinTok out (ydc (4096 - out.length) p (yah s p))

theorem restScan_start (s : ByteArray) (h : s.size ≤ 16384) : ydh s = ydn s [] 0 := by
  unfold ydh ydn; rw [if_neg (by omega), joinTok_nil]; rfl
theorem yfe (s : ByteArray) (p : Nat) : (yah s p).drop (ybo false (yah s p)) = yah s (yaw s false p) := by
  rw [bytesFrom_drop]; rfl
theorem bytesFrom_nil_iff (s : ByteArray) (k : Nat) : yah s k = [] ↔ s.size ≤ k := by
  rw [← List.length_eq_zero_iff, ybd]; omega
theorem restScan_end (s : ByteArray) (out : List Tok) (p : Nat) (h : s.size ≤ yaw s false p) : ydn s out p = .ok out := by
  unfold ydn
  cases hl : 4096 - out.length <;>
  · rw [ydc, yfe, if_pos ((bytesFrom_nil_iff _ _).2 h)]; simp [joinTok]
theorem restScan_full (s : ByteArray) (out : List Tok) (p : Nat) (h : yaw s false p < s.size) (hn : out.length = 4096) : ydn s out p = .error (yaw s false p, 3) := by
  unfold ydn
  rw [hn, show 4096 - 4096 = 0 from rfl, ydc, yfe, if_neg (by rw [bytesFrom_nil_iff]; omega)]; rfl
theorem restScan_err (s : ByteArray) (out : List Tok) (p e : Nat) (h : yaw s false p < s.size) (hn : out.length < 4096) (ht : tokL (yah s (yaw s false p)) = .error e) :
    ydn s out p = .error (yaw s false p, e) := by
  unfold ydn
  obtain ⟨m, hm⟩ : ∃ m, 4096 - out.length = m + 1 := ⟨4096 - out.length - 1, by omega⟩
  rw [hm, ydc, yfe, if_neg (by rw [bytesFrom_nil_iff]; omega), ht]; rfl
theorem restScan_tok (s : ByteArray) (out : List Tok) (p k n v : Nat) (h : yaw s false p < s.size) (hn : out.length < 4096) (ht : tokL (yah s (yaw s false p)) = .ok (k, n, v)) :
    ydn s out p = ydn s (out ++ [⟨k, yaw s false p, yaw s false p + n, v⟩]) (yaw s false p + n) := by
  unfold ydn
  obtain ⟨m, hm⟩ : ∃ m, 4096 - out.length = m + 1 := ⟨4096 - out.length - 1, by omega⟩
  rw [hm, ydc, yfe, if_neg (by rw [bytesFrom_nil_iff]; omega), ht]
  simp only [joinTok_cons, bytesFrom_drop]
  rw [show 4096 - (out ++ [(⟨k, yaw s false p, yaw s false p + n, v⟩ : Tok)]).length = m by simp; omega]
  rfl
end Go.Proofs.YtcpgpiabeimefaaDoor
namespace Go.Proofs.YtcpgpiabeimefaaDoor
open Go.RowKit

theorem skip_take (r : List UInt8) : ∀ (b : Bool) (m : Nat), ybo b (r.take m) = min m (ybo b r) := by
  induction r with
  | nil => intro b m; cases b <;> simp [ybo]
  | cons c r ih =>
    intro b m
    cases m with
    | zero => cases b <;> simp [ybo]
    | succ m =>
      rw [List.take_succ_cons]
      have h1 := ih true m
      have h2 := ih false m
      cases b <;> simp only [ybo] <;> (repeat' split) <;> omega
theorem skip_app (r x : List UInt8) : ∀ b : Bool, ybo b r < r.length → ybo b (r ++ x) = ybo b r := by
  induction r with
  | nil => intro b h; simp at h
  | cons c r ih =>
    intro b h
    simp only [List.length_cons] at h
    have h1 := ih true
    have h2 := ih false
    cases b <;> simp only [ybo, List.cons_append] at * <;> (repeat' split) <;> simp_all <;> omega
theorem skip_drop (r : List UInt8) : ∀ b : Bool, r.drop (ybo b r) ≠ [] → ybo false (r.drop (ybo b r)) = 0 := by
  induction r with
  | nil => intro b h; simp at h
  | cons c r ih =>
    intro b h
    cases b
    · simp only [ybo] at *
      split at h
      · rename_i hc; rw [if_pos hc, Nat.add_comm, List.drop_succ_cons] at *; exact ih false h
      · rename_i hc
        rw [if_neg hc]
        split at h
        · rename_i h35; rw [if_pos h35, Nat.add_comm, List.drop_succ_cons] at *; exact ih true h
        · rename_i h35; rw [if_neg h35, List.drop_zero]; simp [ybo, hc, h35]
    · simp only [ybo] at *
      split at h
      · rename_i hc; rw [if_pos hc, Nat.add_comm, List.drop_succ_cons] at *; exact ih false h
      · rename_i hc; rw [if_neg hc, Nat.add_comm, List.drop_succ_cons] at *; exact ih true h

def blankB (c : UInt8) : Bool := c == 32 || c == 9 || c == 10 || c == 13 || c == 35
theorem blankB_cases {c : UInt8} (h : blankB c = true) : c = 32 ∨ c = 9 ∨ c = 10 ∨ c = 13 ∨ c = 35 := by simpa [blankB, or_assoc] using h
theorem blank_word {c : UInt8} (h : blankB c = true) : yda c = false ∧ yba c = false ∧ ycb c = false := by
  rcases blankB_cases h with rfl | rfl | rfl | rfl | rfl <;> decide
theorem blank_sign {c : UInt8} (h : blankB c = true) (a : UInt8) : sign2B a c = false := by
  rcases blankB_cases h with rfl | rfl | rfl | rfl | rfl <;> simp [sign2B]
theorem run_app (p : UInt8 → Bool) (r x : List UInt8) (c : UInt8) (h : p c = false) : runL p (r ++ c :: x) = runL p r := by
  induction r with
  | nil => simp [runL, h]
  | cons a r ih => simp only [List.cons_append, runL]; split <;> omega
theorem run_take (p : UInt8 → Bool) (r : List UInt8) : ∀ m, runL p (r.take m) = min m (runL p r) := by
  induction r with
  | nil => intro m; simp [runL]
  | cons a r ih =>
    intro m
    cases m with
    | zero => simp [runL]
    | succ m =>
      have := ih m
      rw [List.take_succ_cons]; simp only [runL]; split <;> omega
theorem sign_app (r x : List UInt8) (c : UInt8) (h : blankB c = true) (hr : r ≠ []) : ydd (r ++ c :: x) = ydd r := by
  match r with
  | [] => exact absurd rfl hr
  | [a] => simp [ydd, blank_sign h a]
  | a :: b :: r => rfl
theorem sign_take (r : List UInt8) (m : Nat) (h0 : 1 ≤ ydd r) (h : ydd r ≤ m) : ydd (r.take m) = ydd r := by
  match r with
  | [] => simp [ydd] at h0
  | [a] => rw [List.take_of_length_le]; simp only [List.length_cons, List.length_nil]; omega
  | a :: b :: r =>
    match m with
    | 0 => omega
    | 1 =>
      simp only [ydd, List.take_succ_cons, List.take_zero] at *
      by_cases h2 : sign2B a b = true
      · rw [if_pos h2] at h; omega
      · rw [if_neg h2] at *
    | m + 2 => simp only [List.take_succ_cons, ydd]

theorem tok_app (r x : List UInt8) (c : UInt8) (h : blankB c = true) (hr : r ≠ []) : tokL (r ++ c :: x) = tokL r := by
  match r with
  | [] => exact absurd rfl hr
  | a :: r =>
    have h1 := run_app yda (a :: r) x c (blank_word h).1
    have h2 := run_app yba (a :: r) x c (blank_word h).2.1
    have h3 := sign_app (a :: r) x c h (by simp)
    rw [List.cons_append] at *
    have h4 : (a :: (r ++ c :: x)).take (runL yba (a :: r)) = (a :: r).take (runL yba (a :: r)) := by
      rw [← List.cons_append, List.take_append_of_le_length (runL_le _ _)]
    simp only [tokL, h1, h2, h3, h4]
theorem tok_take (r : List UInt8) (k n v m : Nat) (h : tokL r = .ok (k, n, v)) (hm : n ≤ m) : tokL (r.take m) = .ok (k, n, v) := by
  match r with
  | [] => simp [tokL] at h
  | a :: r =>
    have hb := tokL_bd h
    obtain ⟨m, rfl⟩ : ∃ q, m = q + 1 := ⟨m - 1, by omega⟩
    have h1 := run_take yda (a :: r) (m + 1)
    have h2 := run_take yba (a :: r) (m + 1)
    rw [List.take_succ_cons] at *
    simp only [tokL] at *
    by_cases hl : ycb a = true
    · rw [if_pos hl] at *
      by_cases h24 : 24 < runL yda (a :: r)
      · rw [if_pos h24] at h; cases h
      · rw [if_neg h24] at h
        simp at h
        rw [if_neg (by omega), h1]; simp; omega
    · rw [if_neg hl] at *
      by_cases hd : yba a = true
      · rw [if_pos hd] at *
        have hn : runL yba (a :: r) = n := by
          generalize yfi ((a :: r).take (runL yba (a :: r))) = q at h
          cases q <;> simp at h; exact h.2.1
        have e : runL yba (a :: r.take m) = runL yba (a :: r) := by omega
        have e2 : (a :: r.take m).take (runL yba (a :: r)) = (a :: r).take (runL yba (a :: r)) := by
          rw [← List.take_succ_cons, List.take_take, Nat.min_eq_left (by omega)]
        rw [e, e2]; exact h
      · rw [if_neg hd] at *
        by_cases h0 : ydd (a :: r) = 0
        · rw [if_pos h0] at h; cases h
        · rw [if_neg h0] at h
          simp at h
          have h3 := sign_take (a :: r) (m + 1) (by omega) (by omega)
          rw [List.take_succ_cons] at h3
          rw [h3, if_neg h0]; simp; omega

def Good (s : ByteArray) : Nat → List Tok → Prop
  | p, [] => p ≤ s.size ∧ yaw s false p = s.size
  | p, t :: ts => p ≤ s.size ∧ t.from_ = yaw s false p ∧ t.from_ < s.size ∧ tokL (yah s t.from_) = .ok (t.kind, t.to - t.from_, t.num) ∧ t.from_ < t.to ∧ t.to ≤ s.size ∧ Good s t.to ts

theorem good_of_scan (s : ByteArray) (left : Nat) : ∀ (p : Nat) (ts : List Tok), p ≤ s.size → ydc left p (yah s p) = .ok ts → Good s p ts := by
  have base : ∀ (p : Nat), p ≤ s.size → yah s (yaw s false p) = [] → Good s p [] := fun p hp h => by
    have h1 := (bytesFrom_nil_iff _ _).1 h
    have h2 := (yfj s false p hp).2
    exact ⟨hp, by omega⟩
  induction left with
  | zero =>
    intro p ts hp h
    rw [ydc, yfe] at h
    split at h
    · rename_i he; simp at h; subst h; exact base p hp he
    · cases h
  | succ left ih =>
    intro p ts hp h
    rw [ydc, yfe] at h
    split at h
    · rename_i he; simp at h; subst h; exact base p hp he
    · rename_i he
      rw [bytesFrom_nil_iff] at he
      generalize hq : tokL (yah s (yaw s false p)) = q at h
      match q, hq with
      | .error e, _ => cases h
      | .ok (k, n, v), hq =>
        have hb := tokL_bd hq
        rw [ybd] at hb
        simp only [bytesFrom_drop] at h
        rw [show p + ybo false (yah s p) = yaw s false p from rfl] at h
        generalize hw : ydc left (yaw s false p + n) (yah s (yaw s false p + n)) = w at h
        cases w with
        | error e => cases h
        | ok us =>
          simp only [consTok] at h
          cases h
          refine ⟨hp, rfl, by show yaw s false p < s.size; omega, ?_, by show yaw s false p < yaw s false p + n; omega, by show yaw s false p + n ≤ s.size; omega, ih _ _ (by show yaw s false p + n ≤ s.size; omega) hw⟩
          show tokL (yah s (yaw s false p)) = .ok (k, yaw s false p + n - yaw s false p, v)
          rw [hq, Nat.add_sub_cancel_left]
theorem good_of (s : ByteArray) (ts : List Tok) (h : ydh s = .ok ts) : Good s 0 ts := by
  unfold ydh at h
  split at h
  · cases h
  · exact good_of_scan s 4096 0 ts (by omega) h
theorem Good.tail {s : ByteArray} {p : Nat} {t : Tok} {ts : List Tok} (h : Good s p (t :: ts)) : Good s t.to ts := h.2.2.2.2.2.2
theorem Good.len {s : ByteArray} : ∀ {ts : List Tok} {p : Nat}, Good s p ts → ts.length + p ≤ s.size := by
  intro ts
  induction ts with
  | nil => intro p h; have := h.1; simp; omega
  | cons t ts ih =>
    intro p h
    have h1 := ih h.tail
    obtain ⟨h2, h3, h4, _, h5, h6, _⟩ := h
    have := (yfj s false p h2).1
    simp; omega
theorem Good.mem {s : ByteArray} : ∀ {ts : List Tok} {p : Nat}, Good s p ts → ∀ t ∈ ts, t.from_ < s.size ∧ tokL (yah s t.from_) = .ok (t.kind, t.to - t.from_, t.num) ∧ t.from_ < t.to ∧ t.to ≤ s.size ∧ ybo false (yah s t.from_) = 0 := by
  intro ts
  induction ts with
  | nil => intro p _ t ht; cases ht
  | cons u ts ih =>
    intro p h t ht
    cases ht with
    | head =>
      obtain ⟨h2, h3, h4, h7, h5, h6, _⟩ := h
      refine ⟨h4, h7, h5, h6, ?_⟩
      rw [h3, ← yfe]
      refine skip_drop _ false ?_
      rw [yfe, ← h3]
      intro h8
      rw [bytesFrom_nil_iff] at h8; omega
    | tail _ ht => exact ih h.tail t ht

theorem bytes_extract (s : ByteArray) (a b : Nat) : yah (s.extract a b) 0 = (yah s a).take (b - a) := by
  unfold yah
  rw [List.drop_zero, Lib.extract_data]
theorem extract_size (s : ByteArray) (a b : Nat) (h : b ≤ s.size) : (s.extract a b).size = b - a := by
  rw [ByteArray.size_extract]; omega

theorem run_all (p : UInt8 → Bool) (r : List UInt8) : ∀ c ∈ r.take (runL p r), p c = true := by
  induction r with
  | nil => simp
  | cons x r ih =>
    intro c hc
    simp only [runL] at hc
    by_cases hx : p x = true
    · rw [if_pos hx, Nat.add_comm, List.take_succ_cons] at hc
      cases hc with
      | head => exact hx
      | tail _ h => exact ih c h
    · rw [if_neg hx] at hc; simp at hc
end Go.Proofs.YtcpgpiabeimefaaDoor
set_option linter.unusedVariables false
namespace Go.Proofs.YtcpgpiabeimefaaDoor
open Go.RowKit
variable {nm : Bs → Bool} {names : List Bs}
def pwT (s : ByteArray) (t : Tok) : PW := ⟨(yah s t.from_).take (t.to - t.from_), t.kind, t.num⟩
inductive Scans : Bs → List PW → Prop
  | nil {l : Bs} (h : l.drop (ybo false l) = []) : Scans l []
  | cons {l y r : Bs} {k v : Nat} {ws : List PW} (h : l.drop (ybo false l) = y ++ r) (hy : y ≠ []) (ht : tokL (y ++ r) = .ok (k, y.length, v)) (hr : Scans r ws) : Scans l (⟨y, k, v⟩ :: ws)
theorem consTok_ok {t : Tok} {x : Except (Nat × Nat) (List Tok)} {ts : List Tok} (h : consTok t x = .ok ts) : ∃ us, x = .ok us ∧ ts = t :: us := by
  cases x with
  | error e => cases h
  | ok us => exact ⟨us, rfl, (Except.ok.inj h).symm⟩
def WordOk (w : Bs) : Prop := w.length ≤ 24 ∧ (∀ c ∈ w, yda c = true) ∧ ∃ c x, w = c :: x ∧ ycb c = true
theorem digit_of {c : UInt8} (h : 48 ≤ c.toNat ∧ c.toNat ≤ 57) : yba c = true := by
  unfold yba
  have h1 : (48 : UInt8) ≤ c := by rw [UInt8.le_iff_toNat_le]; exact h.1
  have h2 : c ≤ (57 : UInt8) := by rw [UInt8.le_iff_toNat_le]; exact h.2
  simp [h1, h2]
def headB (c : UInt8) : Bool := ycb c || yba c || c == 40 || c == 45 || c == 33
theorem wr_head (hn : ∀ w ∈ names, WordOk w) {l : Nat} {E : Ex} {x : Bs} {ws : List PW} (h : Wr names l E x ws) : ∃ c y, x = c :: y ∧ headB c = true := by
  induction h with
  | down hl h ih => exact ih
  | paren h ih => exact ⟨_, _, rfl, rfl⟩
  | choice ha hb hc iha ihb ihc => obtain ⟨c, y, rfl, h⟩ := iha; exact ⟨c, _, rfl, h⟩
  | bin h0 hw hl h3 ha hb iha ihb => obtain ⟨c, y, rfl, h⟩ := iha; exact ⟨c, _, rfl, h⟩
  | cmp h0 hw hl ha hb iha ihb => obtain ⟨c, y, rfl, h⟩ := iha; exact ⟨c, _, rfl, h⟩
  | neg ha iha => exact ⟨_, _, rfl, rfl⟩
  | not ha iha => exact ⟨_, _, rfl, rfl⟩
  | @agg op w a xa wa h0 hw ha iha =>
    have : ∀ w ∈ aggL, ∃ c y, w = c :: y ∧ headB c = true := by
      intro w hw
      simp only [aggL, List.mem_cons, List.not_mem_nil, or_false] at hw
      rcases hw with rfl | rfl | rfl | rfl | rfl | rfl | rfl | rfl | rfl | rfl <;> exact ⟨_, _, rfl, rfl⟩
    obtain ⟨c, y, rfl, h⟩ := this w hw
    exact ⟨c, _, rfl, h⟩
  | @num n hn =>
    have hp := dec_pos n
    have hd := dec_digits n
    generalize dec n = ds at *
    cases ds with
    | nil => simp at hp
    | cons c y => exact ⟨c, y, rfl, by simp [headB, digit_of (hd c (by simp))]⟩
  | @own i w h =>
    obtain ⟨_, _, c, y, rfl, hc⟩ := hn w (List.mem_of_getElem? h)
    exact ⟨c, y, rfl, by simp [headB, hc]⟩
  | near h => exact ⟨_, _, rfl, rfl⟩
  | here => exact ⟨_, _, rfl, rfl⟩
  | @const op w h0 hw hne =>
    simp only [constL, List.mem_cons, List.not_mem_nil, or_false] at hw
    rcases hw with rfl | rfl | rfl | rfl | rfl | rfl | rfl | rfl | rfl
    all_goals first | exact ⟨_, _, rfl, rfl⟩ | exact absurd rfl hne
  | field h0 hw => exact ⟨_, _, rfl, rfl⟩
end Go.Proofs.YtcpgpiabeimefaaDoor
