/- Part 10 of the texts under ExprFormats,ExprBracketsEverything: joined, with what it needs alone. -/
import Derived.Below
import Derived.Lib.Split
import Derived.Lib.SplitLaws
import GoSem.Core.Utf8
import Derived.Lib.ItoaNum
import Derived.Lib.Strings
namespace Go.Proofs.YtcpgpiabeimefaaGreatDoor
open Go.RowKit

abbrev Tm := Int × Int

def ar (op : Int) : Int := if op < 1 ∨ 43 < op then -1 else if op ≤ 17 then 0 else if op ≤ 29 then 1 else if op ≤ 42 then 2 else 3
def yhk (op : Int) : Bool := decide (20 ≤ op) && decide (op ≤ 29)
theorem ar_bd (op : Int) : -1 ≤ ar op ∧ ar op ≤ 3 := by unfold ar; repeat' split
                                                        all_goals omega

inductive Ex where
  | lf (t : Tm)
  | un (t : Tm) (a : Ex)
  | bi (t : Tm) (a b : Ex)
  | tr (t : Tm) (a b c : Ex)

namespace Ex
def fl : Ex → List Tm
  | lf t => [t]
  | un t a => t :: a.fl
  | bi t a b => t :: (a.fl ++ b.fl)
  | tr t a b c => t :: (a.fl ++ (b.fl ++ c.fl))
def ok : Ex → Prop
  | lf t => ar t.1 = 0
  | un t a => ar t.1 = 1 ∧ a.ok
  | bi t a b => ar t.1 = 2 ∧ a.ok ∧ b.ok
  | tr t a b c => ar t.1 = 3 ∧ a.ok ∧ b.ok ∧ c.ok
def dp : Ex → Nat
  | lf _ => 1
  | un _ a => a.dp + 1
  | bi _ a b => max a.dp b.dp + 1
  | tr _ a b c => max a.dp (max b.dp c.dp) + 1
def ns : Ex → Nat
  | lf _ => 0
  | un t a => if yhk t.1 then a.ns + 1 else a.ns
  | bi _ a b => max a.ns b.ns
  | tr _ a b c => max a.ns (max b.ns c.ns)
theorem fl_pos (E : Ex) : 1 ≤ E.fl.length := by cases E <;> simp [fl]
end Ex

def ykl : Nat → List Tm → Option Nat
  | 0, _ => some 0
  | _ + 1, [] => none
  | w + 1, t :: l => if ar t.1 < 0 then none else (ykl (w + (ar t.1).toNat) l).map (· + 1)
theorem endN_zero (l : List Tm) : ykl 0 l = some 0 := by cases l <;> rfl
theorem endN_nil (w : Nat) : ykl (w + 1) [] = none := rfl
theorem endN_bad (w : Nat) (t : Tm) (l : List Tm) (h : ar t.1 < 0) : ykl (w + 1) (t :: l) = none := by simp only [ykl]; rw [if_pos h]
theorem endN_step (w : Nat) (t : Tm) (l : List Tm) (h : ¬ ar t.1 < 0) : ykl (w + 1) (t :: l) = (ykl (w + (ar t.1).toNat) l).map (· + 1) := by simp only [ykl]; rw [if_neg h]
theorem endN_fl (E : Ex) : E.ok → ∀ (w : Nat) (r : List Tm), ykl (w + 1) (E.fl ++ r) = (ykl w r).map (· + E.fl.length) := by
  induction E with
  | lf t =>
    intro h w r
    have h' : ar t.1 = 0 := h
    simp only [Ex.fl, List.cons_append, List.nil_append]
    rw [endN_step w t r (by omega), h']; rfl
  | un t a iha =>
    intro ⟨h, ha⟩ w r
    simp only [Ex.fl, List.cons_append]
    rw [endN_step w t _ (by omega), h, show w + (1 : Int).toNat = w + 1 from rfl, iha ha, Option.map_map]
    congr 1
  | bi t a b iha ihb =>
    intro ⟨h, ha, hb⟩ w r
    simp only [Ex.fl, List.cons_append, List.append_assoc]
    rw [endN_step w t _ (by omega), h, show w + (2 : Int).toNat = (w + 1) + 1 from rfl, iha ha, ihb hb, Option.map_map, Option.map_map]
    congr 1
    funext x; simp [List.length_append]; omega
  | tr t a b c iha ihb ihc =>
    intro ⟨h, ha, hb, hc⟩ w r
    simp only [Ex.fl, List.cons_append, List.append_assoc]
    rw [endN_step w t _ (by omega), h, show w + (3 : Int).toNat = ((w + 1) + 1) + 1 from rfl, iha ha, ihb hb, ihc hc, Option.map_map, Option.map_map, Option.map_map]
    congr 1
    funext x; simp [List.length_append]; omega

def ydm : List Tm → Option (List Ex)
  | [] => some []
  | t :: l =>
    match ydm l with
    | none => none
    | some F =>
      if ar t.1 = 0 then some (.lf t :: F)
      else if ar t.1 = 1 then (match F with | a :: F => some (.un t a :: F) | _ => none)
      else if ar t.1 = 2 then (match F with | a :: b :: F => some (.bi t a b :: F) | _ => none)
      else if ar t.1 = 3 then (match F with | a :: b :: c :: F => some (.tr t a b c :: F) | _ => none)
      else none
theorem forest_fl (E : Ex) : E.ok → ∀ (r : List Tm) (F : List Ex), ydm r = some F → ydm (E.fl ++ r) = some (E :: F) := by
  induction E with
  | lf t => intro h r F hr; have h' : ar t.1 = 0 := h; simp [Ex.fl, ydm, hr, h']
  | un t a iha => intro ⟨h, ha⟩ r F hr; simp [Ex.fl, ydm, iha ha r F hr, h]
  | bi t a b iha ihb => intro ⟨h, ha, hb⟩ r F hr; simp [Ex.fl, ydm, iha ha _ _ (ihb hb r F hr), h]
  | tr t a b c iha ihb ihc => intro ⟨h, ha, hb, hc⟩ r F hr; simp [Ex.fl, ydm, iha ha _ _ (ihb hb _ _ (ihc hc r F hr)), h]
def yig (F : List Ex) : List Tm := F.flatMap Ex.fl
theorem forest_inv (l : List Tm) : ∀ F, ydm l = some F → (∀ E ∈ F, E.ok) ∧ yig F = l := by
  induction l with
  | nil => intro F h; simp [ydm] at h; subst h; simp [yig]
  | cons t l ih =>
    intro F h
    simp only [ydm] at h
    cases hl : ydm l with
    | none => rw [hl] at h; cases h
    | some G =>
      obtain ⟨h1, h2⟩ := ih G hl
      rw [hl] at h
      simp only at h
      by_cases a0 : ar t.1 = 0
      · rw [if_pos a0] at h; cases h
        refine ⟨fun E hE => ?_, by simp only [yig, List.flatMap_cons, Ex.fl] at *; rw [h2]; rfl⟩
        cases hE with
        | head => exact a0
        | tail _ hE => exact h1 E hE
      rw [if_neg a0] at h
      by_cases a1 : ar t.1 = 1
      · rw [if_pos a1] at h
        match G, h, h1, h2 with
        | a :: G, h, h1, h2 =>
          cases h
          refine ⟨fun E hE => ?_, by simp only [yig, List.flatMap_cons, Ex.fl] at *; rw [← h2]; rfl⟩
          cases hE with
          | head => exact ⟨a1, h1 a (List.mem_cons_self ..)⟩
          | tail _ hE => exact h1 E (List.mem_cons_of_mem _ hE)
      rw [if_neg a1] at h
      by_cases a2 : ar t.1 = 2
      · rw [if_pos a2] at h
        match G, h, h1, h2 with
        | a :: b :: G, h, h1, h2 =>
          cases h
          refine ⟨fun E hE => ?_, by simp only [yig, List.flatMap_cons, Ex.fl] at *; rw [← h2]; simp⟩
          cases hE with
          | head => exact ⟨a2, h1 a (by simp), h1 b (by simp)⟩
          | tail _ hE => exact h1 E (List.mem_cons_of_mem _ (List.mem_cons_of_mem _ hE))
      rw [if_neg a2] at h
      by_cases a3 : ar t.1 = 3
      · rw [if_pos a3] at h
        match G, h, h1, h2 with
        | a :: b :: c :: G, h, h1, h2 =>
          cases h
          refine ⟨fun E hE => ?_, by simp only [yig, List.flatMap_cons, Ex.fl] at *; rw [← h2]; simp⟩
          cases hE with
          | head => exact ⟨a3, h1 a (by simp), h1 b (by simp), h1 c (by simp)⟩
          | tail _ hE => exact h1 E (List.mem_cons_of_mem _ (List.mem_cons_of_mem _ (List.mem_cons_of_mem _ hE)))
      rw [if_neg a3] at h; cases h

def yet (l : List Tm) : Option Ex := match ydm l with | some [E] => some E | _ => none
theorem parse_fl (E : Ex) (h : E.ok) : yet E.fl = some E := by
  have := forest_fl E h [] [] rfl
  rw [List.append_nil] at this
  unfold yet; rw [this]
theorem yeg {l : List Tm} {E : Ex} (h : yet l = some E) : E.ok ∧ E.fl = l := by
  unfold yet at h
  split at h
  · rename_i E' hf
    cases h
    obtain ⟨h1, h2⟩ := forest_inv l _ hf
    exact ⟨h1 E (by simp), by simpa [yig] using h2⟩
  · cases h

theorem endN_forest (l : List Tm) : ∀ (w n : Nat), ykl w l = some n → ∃ F : List Ex, F.length = w ∧ (∀ E ∈ F, E.ok) ∧ l.take n = yig F := by
  induction l with
  | nil => intro w n h; cases w <;> simp [ykl] at h; exact ⟨[], rfl, by simp, by simp [yig]⟩
  | cons t l ih =>
    intro w n h
    cases w with
    | zero => rw [endN_zero] at h; cases h; exact ⟨[], rfl, by simp, by simp [yig]⟩
    | succ w =>
      by_cases hb : ar t.1 < 0
      · rw [endN_bad w t l hb] at h; cases h
      · rw [endN_step w t l hb, Option.map_eq_some_iff] at h
        obtain ⟨m, hm, rfl⟩ := h
        obtain ⟨F, h1, h2, h3⟩ := ih _ _ hm
        rw [List.take_succ_cons, h3]
        have hk := ar_bd t.1
        have cases4 : ar t.1 = 0 ∨ ar t.1 = 1 ∨ ar t.1 = 2 ∨ ar t.1 = 3 := by omega
        rcases cases4 with hk | hk | hk | hk <;> rw [hk] at h1
        · exact ⟨.lf t :: F, by simp at *; omega, fun E hE => by
            cases hE with
            | head => exact hk
            | tail _ hE => exact h2 E hE, by simp [yig, Ex.fl]⟩
        · match F, h1, h2 with
          | a :: F, h1, h2 => exact ⟨.un t a :: F, by simp at *; omega, fun E hE => by
              cases hE with
              | head => exact ⟨hk, h2 a (by simp)⟩
              | tail _ hE => exact h2 E (List.mem_cons_of_mem _ hE), by simp [yig, Ex.fl]⟩
          | [], h1, _ => simp at h1
        · match F, h1, h2 with
          | a :: b :: F, h1, h2 => exact ⟨.bi t a b :: F, by simp at *; omega, fun E hE => by
              cases hE with
              | head => exact ⟨hk, h2 a (by simp), h2 b (by simp)⟩
              | tail _ hE => exact h2 E (List.mem_cons_of_mem _ (List.mem_cons_of_mem _ hE)), by simp [yig, Ex.fl]⟩
          | [a], h1, _ => simp at h1
          | [], h1, _ => simp at h1
        · match F, h1, h2 with
          | a :: b :: c :: F, h1, h2 => exact ⟨.tr t a b c :: F, by simp at *; omega, fun E hE => by
              cases hE with
              | head => exact ⟨hk, h2 a (by simp), h2 b (by simp), h2 c (by simp)⟩
              | tail _ hE => exact h2 E (List.mem_cons_of_mem _ (List.mem_cons_of_mem _ (List.mem_cons_of_mem _ hE))), by simp [yig, Ex.fl]⟩
          | [a, b], h1, _ => simp at h1
          | [a], h1, _ => simp at h1
          | [], h1, _ => simp at h1

theorem parse_iff (l : List Tm) : (∃ E, yet l = some E) ↔ ykl 1 l = some l.length := by
  constructor
  · rintro ⟨E, h⟩
    obtain ⟨h1, h2⟩ := yeg h
    have := endN_fl E h1 0 []
    rw [List.append_nil, h2, endN_zero] at this
    simpa using this
  · intro h
    obtain ⟨F, h1, h2, h3⟩ := endN_forest l 1 l.length h
    match F, h1, h2, h3 with
    | [E], _, h2, h3 =>
      refine ⟨E, ?_⟩
      rw [List.take_length] at h3
      rw [h3, yig, List.flatMap_cons, List.flatMap_nil, List.append_nil]
      exact parse_fl E (h2 E (by simp))

def yep (vars : Int) (t : Tm) : Bool :=
  if t.1 = 1 then decide (0 ≤ t.2) && decide (t.2 ≤ 1073741824) else if t.1 = 5 ∨ t.1 = 12 then decide (0 ≤ t.2) && decide (t.2 < vars) else decide (t.2 = 0)
def ycp (l : List Tm) (vars : Int) : Bool :=
  match yet l with
  | none => false
  | some E => decide (l.length ≤ 200) && (l.all (yep vars) && (decide (E.dp ≤ 24) && decide (E.ns ≤ 2)))
end Go.Proofs.YtcpgpiabeimefaaGreatDoor
set_option linter.unusedVariables false
namespace Go.Proofs.YtcpgpiabeimefaaGreatDoor
open Go.RowKit

abbrev Lk := Int × Int
structure GraphD where
  ids : List Int
  ports : List (List Lk)
def GraphD.n (g : GraphD) : Nat := g.ports.length

end Go.Proofs.YtcpgpiabeimefaaGreatDoor

set_option linter.unusedVariables false
namespace Go.Proofs.YtcpgpiabeimefaaGreatDoor

theorem take_next {α : Type} {l : List α} {k : Nat} {x : α} (hx : l[k]? = some x) : l.take (k + 1) = l.take k ++ [x] := by
  rw [List.take_add_one, hx]; rfl
def bits (l : List Int) : List Bool := (List.range 256).map fun i : Nat => decide ((i : Int) ∈ l)
end Go.Proofs.YtcpgpiabeimefaaGreatDoor
namespace Go.Proofs.YtcpgpiabeimefaaGreatDoor
end Go.Proofs.YtcpgpiabeimefaaGreatDoor
set_option linter.unusedVariables false
namespace Go.Proofs.YtcpgpiabeimefaaGreatDoor

abbrev Bs := List UInt8
def ba (l : Bs) : ByteArray := ⟨l.toArray⟩
def bl (s : ByteArray) : Bs := s.data.toList
theorem ycu (l : Bs) : bl (ba l) = l := by simp [bl, ba]
theorem ba_bl (s : ByteArray) : ba (bl s) = s := Lib.mk_data s
theorem yaw (l : Bs) : (ba l).size = l.length := by simp [ba, ByteArray.size]
end Go.Proofs.YtcpgpiabeimefaaGreatDoor
set_option linter.unusedVariables false
namespace Go.Proofs.YtcpgpiabeimefaaGreatDoor
structure PW where
  w : Bs
  k : Nat
  v : Nat
def yhc : List Bs → Bs → Option Nat
  | [], _ => none
  | x :: l, w => if x = w then some 0 else (yhc l w).map (· + 1)
def yjd (first : Int) (l : List Bs) (w : Bs) : Int :=
  if w = [] then 0 else match yhc l w with
    | some i => first + i
    | none => 0
def ykk : List Bs := [[42], [47], [37], [43], [45], [61, 61], [33, 61], [60], [60, 61], [62], [62, 61], [38, 38], [124, 124]]
def ykc : List Bs := [[97, 108, 108], [115, 111, 109, 101], [99, 111, 117, 110, 116], [102, 105, 114, 115, 116], [109, 105, 110], [109, 97, 120], [115, 117, 109], [109, 101, 120], [115, 101, 99, 111, 110, 100], [104, 101, 97, 100]]
def ygp : List Bs := [[116, 114, 117, 101], [102, 97, 108, 115, 101], [110, 111, 110, 101], [], [110], [105, 100, 115], [105, 100], [100, 101, 103], [114, 111, 111, 116]]
def yha : List Bs := [[105, 100], [100, 101, 103], [114, 111, 111, 116], [119, 101, 105, 103, 104, 116], [98, 97, 99, 107]]
def ygo (w : Bs) : Int := yjd 30 ykk w
def yko (w : Bs) : Int := yjd 20 ykc w
def yfk (w : Bs) : Int := yjd 2 ygp w
def yfz (w : Bs) : Int := yjd 13 yha w
def ydo (op : Int) : Nat :=
  if op = 43 then 0 else if op = 42 then 1 else if op = 41 then 2 else if 35 ≤ op ∧ op ≤ 40 then 3 else if op = 33 ∨ op = 34 then 4 else if 30 ≤ op ∧ op ≤ 32 then 5 else if op = 18 ∨ op = 19 then 6 else 7
def ybh : List PW → Bs
  | [] => []
  | t :: _ => t.w
inductive Res where
  | ok (e : List Tm) (rest : List PW)
  | bad (err : Int) (rest : List PW)
def ykq (x : Option Res) (k : List Tm → List PW → Option Res) : Option Res :=
  match x with
  | some (.ok e r) => k e r
  | some (.bad c r) => some (.bad c r)
  | none => none
def yii (w : Bs) (ts : List PW) (k : List PW → Option Res) : Option Res :=
  match ts with
  | [] => some (.bad 4 [])
  | t :: r => if t.w = w then k r else some (.bad 4 (t :: r))
def yji (nm : Bs → Bool) (names : List Bs) (op : Int) : List PW → Res
  | [] => .bad 4 []
  | t :: r => if nm t.w = true then (match yhc names t.w with
    | some x => .ok [(op, (x : Int))] r
    | none => .bad 5 (t :: r)) else .bad 4 (t :: r)
def yho (nm : Bs → Bool) (names : List Bs) (ts : List PW) : Res :=
  if ybh ts = [46] then (if yfz (ybh ts.tail) = 0 then yji nm names 12 ts.tail else .ok [(yfz (ybh ts.tail), 0)] ts.tail.tail) else .ok [(11, 0)] ts
inductive NT where
  | choice
  | bin (l : Nat)
  | tail (l : Nat) (left : List Tm)
  | unary
  | prim
def PP (nm : Bs → Bool) (names : List Bs) : Nat → NT → List PW → Option Res
  | 0, _, _ => none
  | f + 1, .choice, ts => ykq (PP nm names f (.bin 1) ts) fun c r =>
      if ybh r = [63] then ykq (PP nm names f .choice r.tail) fun y r2 => yii [58] r2 fun r3 => ykq (PP nm names f .choice r3) fun z r4 => some (.ok ((43, 0) :: (c ++ (y ++ z))) r4)
      else some (.ok c r)
  | f + 1, .bin l, ts => if 6 ≤ l then PP nm names f .unary ts else ykq (PP nm names f (.bin (l + 1)) ts) fun left r => PP nm names f (.tail l left) r
  | f + 1, .tail l left, ts =>
      if ygo (ybh ts) = 0 ∨ ydo (ygo (ybh ts)) ≠ l then some (.ok left ts)
      else ykq (PP nm names f (.bin (l + 1)) ts.tail) fun right r => if l = 3 then some (.ok ((ygo (ybh ts), 0) :: (left ++ right)) r) else PP nm names f (.tail l ((ygo (ybh ts), 0) :: (left ++ right))) r
  | f + 1, .unary, ts =>
      if ybh ts = [45] then ykq (PP nm names f .unary ts.tail) fun x r => some (.ok ((18, 0) :: x) r)
      else if ybh ts = [33] then ykq (PP nm names f .unary ts.tail) fun x r => some (.ok ((19, 0) :: x) r)
      else PP nm names f .prim ts
  | f + 1, .prim, ts => match ts with
      | [] => some (.bad 4 [])
      | t :: r =>
        if t.k = 2 then some (.ok [(1, (t.v : Int))] r)
        else if t.w = [40] then ykq (PP nm names f .choice r) fun x r2 => yii [41] r2 fun r3 => some (.ok x r3)
        else if t.w = [113] then some (yho nm names r)
        else if yfk t.w ≠ 0 then some (.ok [(yfk t.w, 0)] r)
        else if yko t.w ≠ 0 then yii [40] r fun r2 => ykq (PP nm names f .choice r2) fun x r3 => yii [41] r3 fun r4 => some (.ok ((yko t.w, 0) :: x) r4)
        else some (yji nm names 5 (t :: r))
variable {nm : Bs → Bool} {names : List Bs}
theorem ygi {e : List Tm} {r : List PW} {k : List Tm → List PW → Option Res} : ykq (some (.ok e r)) k = k e r := rfl
theorem ycd {x : Option Res} {k : List Tm → List PW → Option Res} {res : Res} (h : ykq x k = some res) : (∃ e r, x = some (.ok e r) ∧ k e r = some res) ∨ ∃ c r, x = some (.bad c r) ∧ res = .bad c r := by
  cases x with
  | none => cases h
  | some y => cases y with
    | ok e r => exact .inl ⟨e, r, rfl, h⟩
    | bad c r => exact .inr ⟨c, r, rfl, (Option.some.inj h).symm⟩
theorem wantW_some {w : Bs} {ts : List PW} {k : List PW → Option Res} {res : Res} (h : yii w ts k = some res) : (∃ t r, ts = t :: r ∧ t.w = w ∧ k r = some res) ∨ (ybh ts ≠ w ∨ ts = []) ∧ res = .bad 4 ts := by
  cases ts with
  | nil => exact .inr ⟨.inr rfl, (Option.some.inj h).symm⟩
  | cons t r =>
    simp only [yii] at h
    split at h
    · rename_i e; exact .inl ⟨t, r, rfl, e, h⟩
    · rename_i e; exact .inr ⟨.inl e, (Option.some.inj h).symm⟩
theorem yfh {x x' : Option Res} {k k' : List Tm → List PW → Option Res} {res : Res} (hx : ∀ y, x = some y → x' = some y) (hk : ∀ e r y, k e r = some y → k' e r = some y) (h : ykq x k = some res) : ykq x' k' = some res := by
  rcases ycd h with ⟨e, r, h1, h2⟩ | ⟨c, r, h1, h2⟩
  · rw [hx _ h1]; exact hk e r _ h2
  · rw [hx _ h1, h2]; rfl
theorem wantW_mono {w : Bs} {ts : List PW} {k k' : List PW → Option Res} {res : Res} (hk : ∀ r y, k r = some y → k' r = some y) (h : yii w ts k = some res) : yii w ts k' = some res := by
  cases ts with
  | nil => exact h
  | cons t r =>
    simp only [yii] at h ⊢
    split
    · rename_i e; rw [if_pos e] at h; exact hk _ _ h
    · rename_i e; rw [if_neg e] at h; exact h
theorem PP_succ : ∀ (f : Nat) (nt : NT) (ts : List PW) (res : Res), PP nm names f nt ts = some res → PP nm names (f + 1) nt ts = some res
  | 0, nt, ts, res, h => by cases h
  | f + 1, nt, ts, res, h => by
    have ih := PP_succ f
    cases nt with
    | choice =>
      rw [PP] at h ⊢
      refine yfh (ih _ _) (fun c r y h => ?_) h
      split
      · rename_i e
        rw [if_pos e] at h
        exact yfh (ih _ _) (fun c r y h => wantW_mono (fun r y h => yfh (ih _ _) (fun _ _ _ h => h) h) h) h
      · rename_i e; rw [if_neg e] at h; exact h
    | bin l =>
      rw [PP] at h ⊢
      split
      · rename_i e; rw [if_pos e] at h; exact ih _ _ _ h
      · rename_i e; rw [if_neg e] at h; exact yfh (ih _ _) (fun c r y h => ih _ _ _ h) h
    | tail l left =>
      rw [PP] at h ⊢
      split
      · rename_i e; rw [if_pos e] at h; exact h
      · rename_i e
        rw [if_neg e] at h
        refine yfh (ih _ _) (fun c r y h => ?_) h
        split
        · rename_i e; rw [if_pos e] at h; exact h
        · rename_i e; rw [if_neg e] at h; exact ih _ _ _ h
    | unary =>
      rw [PP] at h ⊢
      split
      · rename_i e; rw [if_pos e] at h; exact yfh (ih _ _) (fun _ _ _ h => h) h
      · rename_i e
        rw [if_neg e] at h
        split
        · rename_i e; rw [if_pos e] at h; exact yfh (ih _ _) (fun _ _ _ h => h) h
        · rename_i e; rw [if_neg e] at h; exact ih _ _ _ h
    | prim =>
      cases ts with
      | nil => exact h
      | cons t r =>
        simp only [PP] at h ⊢
        split
        · rename_i e; rw [if_pos e] at h; exact h
        · rename_i e
          rw [if_neg e] at h
          split
          · rename_i e; rw [if_pos e] at h; exact yfh (ih _ _) (fun _ _ _ h => h) h
          · rename_i e
            rw [if_neg e] at h
            split
            · rename_i e; rw [if_pos e] at h; exact h
            · rename_i e
              rw [if_neg e] at h
              split
              · rename_i e; rw [if_pos e] at h; exact h
              · rename_i e
                rw [if_neg e] at h
                split
                · rename_i e; rw [if_pos e] at h; exact wantW_mono (fun r y h => yfh (ih _ _) (fun _ _ _ h => h) h) h
                · rename_i e; rw [if_neg e] at h; exact h
theorem PP_mono {f g : Nat} {nt : NT} {ts : List PW} {res : Res} (h : PP nm names f nt ts = some res) (hg : f ≤ g) : PP nm names g nt ts = some res := by
  obtain ⟨d, rfl⟩ := Nat.exists_eq_add_of_le hg
  clear hg
  induction d with
  | zero => exact h
  | succ d ih => exact PP_succ _ _ _ _ ih
def ygl (nm : Bs → Bool) (names : List Bs) (nt : NT) (ts : List PW) (res : Res) : Prop := ∃ f, PP nm names f nt ts = some res
theorem ygl.det {nt : NT} {ts : List PW} {a b : Res} (ha : ygl nm names nt ts a) (hb : ygl nm names nt ts b) : a = b := by
  obtain ⟨f, hf⟩ := ha
  obtain ⟨g, hg⟩ := hb
  have h1 := PP_mono hf (Nat.le_max_left f g)
  rw [PP_mono hg (Nat.le_max_right f g)] at h1
  exact (Option.some.inj h1).symm
def NT.had : NT → Nat
  | .tail _ left => left.length
  | _ => 0
def NT.isTail : NT → Bool
  | .tail _ _ => true
  | _ => false
def Sp (nt : NT) (ts : List PW) : Res → Prop
  | .ok e r => r <:+ ts ∧ e.length + r.length ≤ ts.length + nt.had ∧ (nt.isTail = false → r.length < ts.length)
  | .bad c r => r <:+ ts ∧ (c = 4 ∨ c = 5) ∧ (r = [] → c = 4)
theorem headW_ne {ts : List PW} {w : Bs} (h : ybh ts = w) (hw : w ≠ []) : ∃ t r, ts = t :: r ∧ t.w = w := by
  cases ts with
  | nil => exact absurd h.symm hw
  | cons t r => exact ⟨t, r, rfl, h⟩
theorem find_ne {first : Int} {l : List Bs} {ts : List PW} (h : yjd first l (ybh ts) ≠ 0) : ∃ t r, ts = t :: r := by
  cases ts with
  | nil => exact absurd rfl h
  | cons t r => exact ⟨t, r, rfl⟩
theorem var_sp (op : Int) (ts : List PW) : Sp .prim ts (yji nm names op ts) := by
  cases ts with
  | nil => exact ⟨List.suffix_refl _, .inl rfl, fun _ => rfl⟩
  | cons t r =>
    simp only [yji]
    split
    · split
      · exact ⟨List.suffix_cons _ _, by simp [NT.had]; omega, fun _ => by simp⟩
      · exact ⟨List.suffix_refl _, .inr rfl, fun h => by cases h⟩
    · exact ⟨List.suffix_refl _, .inl rfl, fun _ => rfl⟩
theorem near_sp (t : PW) (ts : List PW) : Sp .prim (t :: ts) (yho nm names ts) := by
  unfold yho
  split
  · rename_i h
    obtain ⟨t1, r, rfl, _⟩ := headW_ne h (by simp)
    by_cases h2 : yfz (ybh (t1 :: r).tail) = 0
    · rw [if_pos h2]
      simp only [List.tail_cons]
      have := var_sp (nm := nm) (names := names) 12 r
      cases hv : yji nm names 12 r with
      | ok e r2 =>
        rw [hv] at this
        obtain ⟨h1, h2, h3⟩ := this
        exact ⟨h1.trans ((List.suffix_cons _ _).trans (List.suffix_cons _ _)), by simp only [List.length_cons, NT.had] at *; omega, fun _ => by have := h3 rfl; simp only [List.length_cons]; omega⟩
      | bad c r2 =>
        rw [hv] at this
        obtain ⟨h1, h2, h3⟩ := this
        exact ⟨h1.trans ((List.suffix_cons _ _).trans (List.suffix_cons _ _)), h2, h3⟩
    · rw [if_neg h2]
      simp only [List.tail_cons] at h2 ⊢
      obtain ⟨t2, r2, rfl⟩ := find_ne h2
      exact ⟨(List.suffix_cons _ _).trans ((List.suffix_cons _ _).trans (List.suffix_cons _ _)), by simp [NT.had]; omega, fun _ => by simp only [List.length_cons, List.tail_cons]; omega⟩
  · exact ⟨List.suffix_cons _ _, by simp [NT.had]; omega, fun _ => by simp⟩
theorem Sp.bad_mono {nt nt' : NT} {ts us : List PW} {c : Int} {r : List PW} (h : Sp nt ts (.bad c r)) (hs : ts <:+ us) : Sp nt' us (.bad c r) := ⟨h.1.trans hs, h.2⟩
theorem want_sp {w : Bs} {ts us : List PW} {k : List PW → Option Res} {nt : NT} {res : Res} (h : yii w ts k = some res) (hs : ts <:+ us) (hk : ∀ t r, ts = t :: r → k r = some res → Sp nt us res) : Sp nt us res := by
  rcases wantW_some h with ⟨t, r, rfl, _, h2⟩ | ⟨_, rfl⟩
  · exact hk t r rfl h2
  · exact ⟨hs, .inl rfl, fun _ => rfl⟩
theorem yfm : ∀ (f : Nat) (nt : NT) (ts : List PW) (res : Res), PP nm names f nt ts = some res → Sp nt ts res
  | 0, nt, ts, res, h => by cases h
  | f + 1, nt, ts, res, h => by
    have ih := yfm f
    cases nt with
    | choice =>
      rw [PP] at h
      rcases ycd h with ⟨c, r, h1, h⟩ | ⟨c, r, h1, rfl⟩
      · obtain ⟨s1, s2, s3⟩ := ih _ _ _ h1
        have s3 := s3 rfl
        simp only [NT.had] at s2
        split at h
        · rename_i hq
          obtain ⟨t, r, rfl, _⟩ := headW_ne hq (by simp)
          simp only [List.tail_cons, List.length_cons] at h s2 s3
          rcases ycd h with ⟨y, r2, h2, h⟩ | ⟨c, r2, h2, rfl⟩
          · obtain ⟨u1, u2, u3⟩ := ih _ _ _ h2
            have u3 := u3 rfl
            simp only [NT.had] at u2
            refine want_sp h (u1.trans ((List.suffix_cons _ _).trans s1)) fun t2 r3 he hq2 => ?_
            subst he
            clear h
            have h := hq2
            simp only [List.length_cons] at u2 u3
            have hs3 := (List.suffix_cons t2 r3).trans (u1.trans ((List.suffix_cons _ _).trans s1))
            rcases ycd h with ⟨z, r4, h3, h⟩ | ⟨c, r4, h3, rfl⟩
            · obtain ⟨v1, v2, v3⟩ := ih _ _ _ h3
              have v3 := v3 rfl
              simp only [NT.had] at v2
              obtain rfl := (Option.some.inj h).symm
              exact ⟨v1.trans hs3, by simp only [List.length_cons, List.length_append, NT.had]; omega, fun _ => by omega⟩
            · exact (ih _ _ _ h3).bad_mono hs3
          · exact (ih _ _ _ h2).bad_mono ((List.suffix_cons _ _).trans s1)
        · obtain rfl := (Option.some.inj h).symm
          exact ⟨s1, by simp only [NT.had]; omega, fun _ => s3⟩
      · exact (ih _ _ _ h1).bad_mono (List.suffix_refl _)
    | bin l =>
      rw [PP] at h
      split at h
      · have := ih _ _ _ h
        cases res <;> exact this
      · rcases ycd h with ⟨c, r, h1, h⟩ | ⟨c, r, h1, rfl⟩
        · obtain ⟨s1, s2, s3⟩ := ih _ _ _ h1
          have s3 := s3 rfl
          simp only [NT.had] at s2
          have := ih _ _ _ h
          cases res with
          | ok e r2 =>
            obtain ⟨u1, u2, u3⟩ := this
            have := u1.length_le
            simp only [NT.had] at u2
            exact ⟨u1.trans s1, by simp only [NT.had]; omega, fun _ => by omega⟩
          | bad c r2 => exact this.bad_mono s1
        · exact (ih _ _ _ h1).bad_mono (List.suffix_refl _)
    | tail l left =>
      rw [PP] at h
      split at h
      · obtain rfl := (Option.some.inj h).symm
        exact ⟨List.suffix_refl _, by simp only [NT.had]; omega, fun h => by cases h⟩
      · rename_i hq
        obtain ⟨t, r, rfl⟩ := find_ne (fun e => hq (.inl e))
        simp only [List.tail_cons] at h
        rcases ycd h with ⟨c, r1, h1, h⟩ | ⟨c, r1, h1, rfl⟩
        · obtain ⟨s1, s2, s3⟩ := ih _ _ _ h1
          have s3 := s3 rfl
          simp only [NT.had] at s2
          split at h
          · obtain rfl := (Option.some.inj h).symm
            exact ⟨s1.trans (List.suffix_cons _ _), by simp only [NT.had, List.length_cons, List.length_append]; omega, fun h => by cases h⟩
          · have := ih _ _ _ h
            cases res with
            | ok e r2 =>
              obtain ⟨u1, u2, u3⟩ := this
              simp only [NT.had, List.length_cons, List.length_append] at u2
              exact ⟨u1.trans (s1.trans (List.suffix_cons _ _)), by simp only [NT.had, List.length_cons]; omega, fun h => by cases h⟩
            | bad c r2 => exact this.bad_mono (s1.trans (List.suffix_cons _ _))
        · exact (ih _ _ _ h1).bad_mono (List.suffix_cons _ _)
    | unary =>
      rw [PP] at h
      split at h
      · rename_i hq
        obtain ⟨t, r, rfl, _⟩ := headW_ne hq (by simp)
        simp only [List.tail_cons] at h
        rcases ycd h with ⟨c, r1, h1, h⟩ | ⟨c, r1, h1, rfl⟩
        · obtain ⟨s1, s2, s3⟩ := ih _ _ _ h1
          have s3 := s3 rfl
          simp only [NT.had] at s2
          obtain rfl := (Option.some.inj h).symm
          exact ⟨s1.trans (List.suffix_cons _ _), by simp only [NT.had, List.length_cons]; omega, fun _ => by simp only [List.length_cons]; omega⟩
        · exact (ih _ _ _ h1).bad_mono (List.suffix_cons _ _)
      · split at h
        · rename_i hq
          obtain ⟨t, r, rfl, _⟩ := headW_ne hq (by simp)
          simp only [List.tail_cons] at h
          rcases ycd h with ⟨c, r1, h1, h⟩ | ⟨c, r1, h1, rfl⟩
          · obtain ⟨s1, s2, s3⟩ := ih _ _ _ h1
            have s3 := s3 rfl
            simp only [NT.had] at s2
            obtain rfl := (Option.some.inj h).symm
            exact ⟨s1.trans (List.suffix_cons _ _), by simp only [NT.had, List.length_cons]; omega, fun _ => by simp only [List.length_cons]; omega⟩
          · exact (ih _ _ _ h1).bad_mono (List.suffix_cons _ _)
        · have := ih _ _ _ h
          cases res <;> exact this
    | prim =>
      cases ts with
      | nil =>
        obtain rfl := (Option.some.inj h).symm
        exact ⟨List.suffix_refl _, .inl rfl, fun _ => rfl⟩
      | cons t r =>
        simp only [PP] at h
        split at h
        · obtain rfl := (Option.some.inj h).symm
          exact ⟨List.suffix_cons _ _, by simp [NT.had]; omega, fun _ => by simp⟩
        · split at h
          · rcases ycd h with ⟨c, r1, h1, h⟩ | ⟨c, r1, h1, rfl⟩
            · obtain ⟨s1, s2, s3⟩ := ih _ _ _ h1
              have s3 := s3 rfl
              simp only [NT.had] at s2
              refine want_sp h (s1.trans (List.suffix_cons _ _)) fun t2 r3 he hq2 => ?_
              subst he
              clear h
              have h := hq2
              obtain rfl := (Option.some.inj h).symm
              simp only [List.length_cons] at s2 s3
              exact ⟨(List.suffix_cons _ _).trans (s1.trans (List.suffix_cons _ _)), by simp only [NT.had, List.length_cons]; omega, fun _ => by simp only [List.length_cons]; omega⟩
            · exact (ih _ _ _ h1).bad_mono (List.suffix_cons _ _)
          · split at h
            · obtain rfl := (Option.some.inj h).symm
              exact near_sp t r
            · split at h
              · obtain rfl := (Option.some.inj h).symm
                exact ⟨List.suffix_cons _ _, by simp [NT.had]; omega, fun _ => by simp⟩
              · split at h
                · refine want_sp h (List.suffix_cons _ _) fun t2 r2 he hq2 => ?_
                  subst he
                  clear h
                  have h := hq2
                  have hs := (List.suffix_cons t2 r2).trans (List.suffix_cons t _)
                  rcases ycd h with ⟨c, r3, h1, h⟩ | ⟨c, r3, h1, rfl⟩
                  · obtain ⟨s1, s2, s3⟩ := ih _ _ _ h1
                    have s3 := s3 rfl
                    simp only [NT.had] at s2
                    refine want_sp h (s1.trans hs) fun t4 r4 he hq2 => ?_
                    subst he
                    clear h
                    have h := hq2
                    obtain rfl := (Option.some.inj h).symm
                    simp only [List.length_cons] at s2 s3
                    exact ⟨(List.suffix_cons _ _).trans (s1.trans hs), by simp only [NT.had, List.length_cons]; omega, fun _ => by simp only [List.length_cons]; omega⟩
                  · exact (ih _ _ _ h1).bad_mono hs
                · obtain rfl := (Option.some.inj h).symm
                  exact var_sp 5 (t :: r)
def ygu : NT → Nat
  | .choice => 9
  | .bin l => 9 - l
  | .tail _ _ => 1
  | .unary => 2
  | .prim => 1
theorem yed {x : Option Res} {k : List Tm → List PW → Option Res} (hx : ∃ y, x = some y) (hk : ∀ e r, x = some (.ok e r) → ∃ y, k e r = some y) : ∃ y, ykq x k = some y := by
  obtain ⟨y, rfl⟩ := hx
  cases y with
  | ok e r => exact hk e r rfl
  | bad c r => exact ⟨_, rfl⟩
theorem wantW_total {w : Bs} {ts : List PW} {k : List PW → Option Res} (hk : ∀ t r, ts = t :: r → ∃ y, k r = some y) : ∃ y, yii w ts k = some y := by
  cases ts with
  | nil => exact ⟨_, rfl⟩
  | cons t r =>
    simp only [yii]
    split
    · exact hk t r rfl
    · exact ⟨_, rfl⟩
theorem PP_total : ∀ (f : Nat) (nt : NT) (ts : List PW), (∀ l, nt = .bin l → l ≤ 6) → (∀ l left, nt = .tail l left → l ≤ 5) → 10 * ts.length + ygu nt ≤ f → ∃ y, PP nm names f nt ts = some y
  | 0, nt, ts, hl, ht, h => by
    cases nt with
    | bin l => have := hl l rfl; simp only [ygu] at h; omega
    | _ => simp only [ygu] at h; omega
  | f + 1, nt, ts, hl, ht, h => by
    have ih := fun nt ts a b c => PP_total f nt ts a b c
    have nb : ∀ {nt : NT}, (∀ l, nt ≠ .bin l) → ∀ l, nt = .bin l → l ≤ 6 := fun h l e => absurd e (h l)
    have ntl : ∀ {nt : NT}, (∀ l x, nt ≠ .tail l x) → ∀ l x, nt = .tail l x → l ≤ 5 := fun h l x e => absurd e (h l x)
    cases nt with
    | choice =>
      rw [PP]
      simp only [ygu] at h
      refine yed (ih _ _ (fun l e => by cases e; omega) (ntl (by simp)) (by simp only [ygu]; omega)) fun c r h1 => ?_
      have s := (yfm _ _ _ _ h1).2.2 rfl
      split
      · rename_i hq
        obtain ⟨t, r, rfl, _⟩ := headW_ne hq (by simp)
        simp only [List.length_cons, List.tail_cons] at s ⊢
        refine yed (ih _ _ (nb (by simp)) (ntl (by simp)) (by simp only [ygu]; omega)) fun y r2 h2 => wantW_total fun t3 r3 he => ?_
        have s2 := (yfm _ _ _ _ h2).2.2 rfl
        subst he
        simp only [List.length_cons] at s2
        exact yed (ih _ _ (nb (by simp)) (ntl (by simp)) (by simp only [ygu]; omega)) fun z r4 h3 => ⟨_, rfl⟩
      · exact ⟨_, rfl⟩
    | bin l =>
      have hl6 := hl l rfl
      rw [PP]
      simp only [ygu] at h
      split
      · exact ih _ _ (nb (by simp)) (ntl (by simp)) (by simp only [ygu]; omega)
      · refine yed (ih _ _ (fun l' e => by cases e; omega) (ntl (by simp)) (by simp only [ygu]; omega)) fun c r h1 => ?_
        have s := (yfm _ _ _ _ h1).2.2 rfl
        exact ih _ _ (nb (by simp)) (fun l' x e => by cases e; omega) (by simp only [ygu]; omega)
    | tail l left =>
      have hl5 := ht l left rfl
      rw [PP]
      simp only [ygu] at h
      split
      · exact ⟨_, rfl⟩
      · rename_i hq
        obtain ⟨t, r, rfl⟩ := find_ne (fun e => hq (.inl e))
        simp only [List.tail_cons, List.length_cons] at h ⊢
        refine yed (ih _ _ (fun l' e => by cases e; omega) (ntl (by simp)) (by simp only [ygu]; omega)) fun c r1 h1 => ?_
        have s := (yfm _ _ _ _ h1).2.2 rfl
        split
        · exact ⟨_, rfl⟩
        · exact ih _ _ (nb (by simp)) (fun l' x e => by cases e; omega) (by simp only [ygu]; omega)
    | unary =>
      rw [PP]
      simp only [ygu] at h
      split
      · rename_i hq
        obtain ⟨t, r, rfl, _⟩ := headW_ne hq (by simp)
        simp only [List.tail_cons, List.length_cons] at h ⊢
        exact yed (ih _ _ (nb (by simp)) (ntl (by simp)) (by simp only [ygu]; omega)) fun z r4 h3 => ⟨_, rfl⟩
      · split
        · rename_i hq
          obtain ⟨t, r, rfl, _⟩ := headW_ne hq (by simp)
          simp only [List.tail_cons, List.length_cons] at h ⊢
          exact yed (ih _ _ (nb (by simp)) (ntl (by simp)) (by simp only [ygu]; omega)) fun z r4 h3 => ⟨_, rfl⟩
        · exact ih _ _ (nb (by simp)) (ntl (by simp)) (by simp only [ygu]; omega)
    | prim =>
      cases ts with
      | nil => exact ⟨_, rfl⟩
      | cons t r =>
        simp only [PP]
        simp only [ygu, List.length_cons] at h
        split
        · exact ⟨_, rfl⟩
        · split
          · exact yed (ih _ _ (nb (by simp)) (ntl (by simp)) (by simp only [ygu]; omega)) fun z r4 h3 => wantW_total fun t3 r3 he => ⟨_, rfl⟩
          · split
            · exact ⟨_, rfl⟩
            · split
              · exact ⟨_, rfl⟩
              · split
                · refine wantW_total fun t2 r2 he => ?_
                  subst he
                  simp only [List.length_cons] at h
                  exact yed (ih _ _ (nb (by simp)) (ntl (by simp)) (by simp only [ygu]; omega)) fun z r4 h3 => wantW_total fun t3 r3 he => ⟨_, rfl⟩
                · exact ⟨_, rfl⟩
theorem pars_total (ts : List PW) : ∃ res, ygl nm names .choice ts res := by
  obtain ⟨y, hy⟩ := PP_total (nm := nm) (names := names) (10 * ts.length + 9) .choice ts (fun l e => by cases e) (fun l x e => by cases e) (Nat.le_refl _)
  exact ⟨y, _, hy⟩
end Go.Proofs.YtcpgpiabeimefaaGreatDoor
set_option linter.unusedVariables false
namespace Go.Proofs.YtcpgpiabeimefaaGreatDoor

abbrev dec (v : Nat) : Bs := Lib.decDigits v
theorem yfr {v : Nat} (h : v < 10) : dec v = [UInt8.ofNat (48 + v)] := by unfold dec; rw [Lib.decDigits, dif_pos h]
theorem dec_big {v : Nat} (h : ¬ v < 10) : dec v = dec (v / 10) ++ [UInt8.ofNat (48 + v % 10)] := by unfold dec; rw [Lib.decDigits, dif_neg h]
theorem digit_nat {d : Nat} (h : d < 10) : (UInt8.ofNat (48 + d)).toNat = 48 + d := by
  rw [UInt8.toNat_ofNat']; omega
theorem dec_digits (v : Nat) : ∀ c ∈ dec v, 48 ≤ c.toNat ∧ c.toNat ≤ 57 := by
  induction v using Nat.strongRecOn with
  | ind v ih =>
    intro c hc
    by_cases h : v < 10
    · rw [yfr h] at hc
      simp only [List.mem_singleton] at hc
      subst hc
      rw [digit_nat h]; omega
    · rw [dec_big h] at hc
      rcases List.mem_append.1 hc with hc | hc
      · exact ih (v / 10) (by omega) c hc
      · simp only [List.mem_singleton] at hc
        subst hc
        rw [digit_nat (by omega)]; omega
theorem dec_pos (v : Nat) : 1 ≤ (dec v).length := by
  by_cases h : v < 10
  · rw [yfr h]; simp
  · rw [dec_big h]; simp
theorem dec_len : ∀ (k v : Nat), 1 ≤ k → v < 10 ^ k → (dec v).length ≤ k
  | 0, v, h, _ => by omega
  | k + 1, v, _, hv => by
    by_cases h : v < 10
    · rw [yfr h]; simp
    · rw [dec_big h]
      have hk : 1 ≤ k := by
        rcases Nat.eq_zero_or_pos k with h0 | h0
        · subst h0; simp at hv; omega
        · exact h0
      have := dec_len k (v / 10) hk (by rw [Nat.pow_succ] at hv; omega)
      simp; omega
theorem dec_head (v : Nat) (h0 : 1 ≤ v) : (dec v).head? ≠ some 48 := by
  induction v using Nat.strongRecOn with
  | ind v ih =>
    by_cases h : v < 10
    · rw [yfr h]
      simp only [List.head?_cons, ne_eq, Option.some.injEq]
      intro e
      have := congrArg UInt8.toNat e
      rw [digit_nat h] at this
      simp at this; omega
    · rw [dec_big h]
      have hp := dec_pos (v / 10)
      have := ih (v / 10) (by omega) (by omega)
      cases hd : dec (v / 10) with
      | nil => rw [hd] at hp; simp at hp
      | cons c r => rw [hd] at this; simpa using this
end Go.Proofs.YtcpgpiabeimefaaGreatDoor
set_option linter.unusedVariables false
namespace Go.Proofs.YtcpgpiabeimefaaGreatDoor
variable {nm : Bs → Bool} {names : List Bs}
theorem PP_to {f g : Nat} {nt : NT} {ts : List PW} {res : Res} (h : PP nm names f nt ts = some res) (hg : f ≤ g := by omega) : PP nm names g nt ts = some res := PP_mono h hg
theorem p_choice1 {ts r : List PW} {c : List Tm} (h : ygl nm names (.bin 1) ts (.ok c r)) (hr : ybh r ≠ [63]) : ygl nm names .choice ts (.ok c r) := by
  obtain ⟨f, hf⟩ := h
  exact ⟨f + 1, by rw [PP, hf, ygi, if_neg hr]⟩
theorem p_choice2 {ts r r3 r4 : List PW} {t t2 : PW} {c y z : List Tm} (h1 : ygl nm names (.bin 1) ts (.ok c (t :: r))) (ht : t.w = [63]) (h2 : ygl nm names .choice r (.ok y (t2 :: r3))) (ht2 : t2.w = [58]) (h3 : ygl nm names .choice r3 (.ok z r4)) : ygl nm names .choice ts (.ok ((43, 0) :: (c ++ (y ++ z))) r4) := by
  obtain ⟨f1, h1⟩ := h1
  obtain ⟨f2, h2⟩ := h2
  obtain ⟨f3, h3⟩ := h3
  refine ⟨f1 + f2 + f3 + 1, ?_⟩
  rw [PP, PP_to (g := f1 + f2 + f3) h1, ygi, if_pos (show ybh (t :: r) = [63] from ht), List.tail_cons, PP_to (g := f1 + f2 + f3) h2, ygi, yii, if_pos ht2, PP_to (g := f1 + f2 + f3) h3, ygi]
theorem p_bin {l : Nat} {ts r : List PW} {left : List Tm} {res : Res} (hl : l < 6) (h1 : ygl nm names (.bin (l + 1)) ts (.ok left r)) (h2 : ygl nm names (.tail l left) r res) : ygl nm names (.bin l) ts res := by
  obtain ⟨f1, h1⟩ := h1
  obtain ⟨f2, h2⟩ := h2
  refine ⟨f1 + f2 + 1, ?_⟩
  rw [PP, if_neg (by omega), PP_to (g := f1 + f2) h1, ygi, PP_to (g := f1 + f2) h2]
theorem p_bin6 {ts : List PW} {res : Res} (h1 : ygl nm names .unary ts res) : ygl nm names (.bin 6) ts res := by
  obtain ⟨f1, h1⟩ := h1
  exact ⟨f1 + 1, by rw [PP, if_pos (by omega), h1]⟩
theorem p_tail0 {l : Nat} {ts : List PW} {left : List Tm} (h : ygo (ybh ts) = 0 ∨ ydo (ygo (ybh ts)) ≠ l) : ygl nm names (.tail l left) ts (.ok left ts) := ⟨1, by rw [PP, if_pos h]⟩
theorem p_tail {l : Nat} {r r2 : List PW} {t : PW} {left right : List Tm} {res : Res} (h0 : ygo t.w ≠ 0) (hl : ydo (ygo t.w) = l) (h1 : ygl nm names (.bin (l + 1)) r (.ok right r2)) (h3 : l = 3 → res = .ok ((ygo t.w, 0) :: (left ++ right)) r2) (h2 : l ≠ 3 → ygl nm names (.tail l ((ygo t.w, 0) :: (left ++ right))) r2 res) : ygl nm names (.tail l left) (t :: r) res := by
  obtain ⟨f1, h1⟩ := h1
  by_cases e : l = 3
  · refine ⟨f1 + 1, ?_⟩
    rw [PP, if_neg (by simp only [ybh]; rintro (h | h); exact h0 h; exact h hl), List.tail_cons, h1, ygi, if_pos e, h3 e]; rfl
  · obtain ⟨f2, h2⟩ := h2 e
    refine ⟨f1 + f2 + 1, ?_⟩
    rw [PP, if_neg (by simp only [ybh]; rintro (h | h); exact h0 h; exact h hl), List.tail_cons, PP_to (g := f1 + f2) h1, ygi, if_neg e]
    exact PP_to h2
theorem p_neg {r r2 : List PW} {t : PW} {x : List Tm} (ht : t.w = [45]) (h : ygl nm names .unary r (.ok x r2)) : ygl nm names .unary (t :: r) (.ok ((18, 0) :: x) r2) := by
  obtain ⟨f, h⟩ := h
  exact ⟨f + 1, by rw [PP, if_pos (show ybh (t :: r) = [45] from ht), List.tail_cons, h, ygi]⟩
theorem p_not {r r2 : List PW} {t : PW} {x : List Tm} (ht : t.w = [33]) (h : ygl nm names .unary r (.ok x r2)) : ygl nm names .unary (t :: r) (.ok ((19, 0) :: x) r2) := by
  obtain ⟨f, h⟩ := h
  exact ⟨f + 1, by rw [PP, if_neg (show ybh (t :: r) ≠ [45] by simp [ybh, ht]), if_pos (show ybh (t :: r) = [33] from ht), List.tail_cons, h, ygi]⟩
theorem p_prim {ts : List PW} {res : Res} (h1 : ybh ts ≠ [45]) (h2 : ybh ts ≠ [33]) (h : ygl nm names .prim ts res) : ygl nm names .unary ts res := by
  obtain ⟨f, h⟩ := h
  exact ⟨f + 1, by rw [PP, if_neg h1, if_neg h2, h]⟩
theorem p_num {t : PW} {r : List PW} (h : t.k = 2) : ygl nm names .prim (t :: r) (.ok [(1, (t.v : Int))] r) := ⟨1, by simp only [PP, if_pos h]⟩
theorem p_paren {t t2 : PW} {r r3 : List PW} {x : List Tm} (hk : t.k ≠ 2) (ht : t.w = [40]) (h : ygl nm names .choice r (.ok x (t2 :: r3))) (h2 : t2.w = [41]) : ygl nm names .prim (t :: r) (.ok x r3) := by
  obtain ⟨f, h⟩ := h
  exact ⟨f + 1, by simp only [PP, if_neg hk, if_pos ht, h, ygi, yii, if_pos h2]⟩
theorem p_q {t : PW} {r : List PW} (hk : t.k ≠ 2) (ht : t.w = [113]) : ygl nm names .prim (t :: r) (yho nm names r) := ⟨1, by simp only [PP, if_neg hk, ht, if_pos]; rw [if_neg (by simp)]⟩
theorem p_const {t : PW} {r : List PW} (hk : t.k ≠ 2) (h1 : t.w ≠ [40]) (h2 : t.w ≠ [113]) (h3 : yfk t.w ≠ 0) : ygl nm names .prim (t :: r) (.ok [(yfk t.w, 0)] r) := ⟨1, by simp only [PP, if_neg hk, if_neg h1, if_neg h2, if_pos h3]⟩
theorem p_agg {t t2 t4 : PW} {r2 r4 : List PW} {x : List Tm} (hk : t.k ≠ 2) (h1 : t.w ≠ [40]) (h2 : t.w ≠ [113]) (h3 : yfk t.w = 0) (h4 : yko t.w ≠ 0) (h5 : t2.w = [40]) (h : ygl nm names .choice r2 (.ok x (t4 :: r4))) (h6 : t4.w = [41]) : ygl nm names .prim (t :: t2 :: r2) (.ok ((yko t.w, 0) :: x) r4) := by
  obtain ⟨f, h⟩ := h
  exact ⟨f + 1, by simp only [PP, if_neg hk, if_neg h1, if_neg h2, if_neg (show ¬ yfk t.w ≠ 0 from fun e => e h3), if_pos h4, yii, if_pos h5, h, ygi, if_pos h6]⟩
theorem p_var {t : PW} {r : List PW} {x : Nat} (hk : t.k ≠ 2) (h1 : t.w ≠ [40]) (h2 : t.w ≠ [113]) (h3 : yfk t.w = 0) (h4 : yko t.w = 0) (hn : nm t.w = true) (hx : yhc names t.w = some x) : ygl nm names .prim (t :: r) (.ok [(5, (x : Int))] r) :=
  ⟨1, by simp only [PP, if_neg hk, if_neg h1, if_neg h2, if_neg (show ¬ yfk t.w ≠ 0 from fun e => e h3), if_neg (show ¬ yko t.w ≠ 0 from fun e => e h4), yji, if_pos hn, hx]⟩
def pwS (w : Bs) : PW := ⟨w, 3, 0⟩
def pwN (w : Bs) : PW := ⟨w, 1, 0⟩
def pwV (n : Nat) : PW := ⟨dec n, 2, n⟩
inductive Wr (names : List Bs) : Nat → Ex → Bs → List PW → Prop
  | down {l : Nat} {E : Ex} {x : Bs} {ws : List PW} (hl : l < 7) (h : Wr names (l + 1) E x ws) : Wr names l E x ws
  | paren {E : Ex} {x : Bs} {ws : List PW} (h : Wr names 0 E x ws) : Wr names 7 E (40 :: (x ++ [41])) (pwS [40] :: (ws ++ [pwS [41]]))
  | choice {a b c : Ex} {xa xb xc : Bs} {wa wb wc : List PW} (ha : Wr names 1 a xa wa) (hb : Wr names 0 b xb wb) (hc : Wr names 0 c xc wc) : Wr names 0 (.tr (43, 0) a b c) (xa ++ (32 :: 63 :: 32 :: (xb ++ (32 :: 58 :: 32 :: xc)))) (wa ++ (pwS [63] :: (wb ++ (pwS [58] :: wc))))
  | bin {op : Int} {l : Nat} {w : Bs} {a b : Ex} {xa xb : Bs} {wa wb : List PW} (h0 : ygo w = op) (hw : w ∈ ykk) (hl : ydo op = l) (h3 : l ≠ 3) (ha : Wr names l a xa wa) (hb : Wr names (l + 1) b xb wb) : Wr names l (.bi (op, 0) a b) (xa ++ (32 :: (w ++ (32 :: xb)))) (wa ++ (pwS w :: wb))
  | cmp {op : Int} {w : Bs} {a b : Ex} {xa xb : Bs} {wa wb : List PW} (h0 : ygo w = op) (hw : w ∈ ykk) (hl : ydo op = 3) (ha : Wr names 4 a xa wa) (hb : Wr names 4 b xb wb) : Wr names 3 (.bi (op, 0) a b) (xa ++ (32 :: (w ++ (32 :: xb)))) (wa ++ (pwS w :: wb))
  | neg {a : Ex} {xa : Bs} {wa : List PW} (ha : Wr names 6 a xa wa) : Wr names 6 (.un (18, 0) a) (45 :: xa) (pwS [45] :: wa)
  | not {a : Ex} {xa : Bs} {wa : List PW} (ha : Wr names 6 a xa wa) : Wr names 6 (.un (19, 0) a) (33 :: xa) (pwS [33] :: wa)
  | agg {op : Int} {w : Bs} {a : Ex} {xa : Bs} {wa : List PW} (h0 : yko w = op) (hw : w ∈ ykc) (ha : Wr names 0 a xa wa) : Wr names 7 (.un (op, 0) a) (w ++ (40 :: (xa ++ [41]))) (pwN w :: pwS [40] :: (wa ++ [pwS [41]]))
  | num {n : Nat} (hn : n ≤ 1073741824) : Wr names 7 (.lf (1, n)) (dec n) [pwV n]
  | own {i : Nat} {w : Bs} (h : names[i]? = some w) : Wr names 7 (.lf (5, i)) w [pwN w]
  | near {i : Nat} {w : Bs} (h : names[i]? = some w) : Wr names 7 (.lf (12, i)) (113 :: 46 :: w) [pwN [113], pwS [46], pwN w]
  | here : Wr names 7 (.lf (11, 0)) [113] [pwN [113]]
  | const {op : Int} {w : Bs} (h0 : yfk w = op) (hw : w ∈ ygp) (hne : w ≠ []) : Wr names 7 (.lf (op, 0)) w [pwN w]
  | field {op : Int} {w : Bs} (h0 : yfz w = op) (hw : w ∈ yha) : Wr names 7 (.lf (op, 0)) (113 :: 46 :: w) [pwN [113], pwS [46], pwN w]
structure NmOk (nm : Bs → Bool) (names : List Bs) : Prop where
  good : ∀ w ∈ names, nm w = true
  nodup : names.Nodup
  res : ∀ w, nm w = true → yfk w = 0 ∧ yko w = 0 ∧ yfz w = 0 ∧ w ≠ [113] ∧ w ≠ [40] ∧ w ≠ [45] ∧ w ≠ [33]
theorem idxW_get : ∀ {l : List Bs} {i : Nat} {w : Bs}, l.Nodup → l[i]? = some w → yhc l w = some i
  | [], i, w, _, h => by simp at h
  | x :: l, 0, w, _, h => by simp at h; simp [yhc, h]
  | x :: l, i + 1, w, hn, h => by
    simp only [List.getElem?_cons_succ] at h
    have hne : x ≠ w := fun e => (List.nodup_cons.1 hn).1 (e ▸ List.mem_of_getElem? h)
    rw [yhc, if_neg hne, idxW_get (List.nodup_cons.1 hn).2 h]
    rfl
theorem idxW_of : ∀ {l : List Bs} {i : Nat} {w : Bs}, yhc l w = some i → l[i]? = some w
  | [], i, w, h => by cases h
  | x :: l, i, w, h => by
    rw [yhc] at h
    split at h
    · rename_i e; cases h; simp [e]
    · cases hq : yhc l w with
      | none => rw [hq] at h; cases h
      | some j => rw [hq] at h; cases h; simpa using idxW_of hq
theorem agg_words : ∀ w ∈ ykc, yko w ≠ 0 ∧ yfk w = 0 ∧ w ≠ [40] ∧ w ≠ [113] ∧ w ≠ [45] ∧ w ≠ [33] := by decide
theorem const_words : ∀ w ∈ ygp, w ≠ [] → yfk w ≠ 0 ∧ w ≠ [40] ∧ w ≠ [113] ∧ w ≠ [45] ∧ w ≠ [33] := by decide
theorem field_words : ∀ w ∈ yha, yfz w ≠ 0 := by decide
theorem bin_words : ∀ w ∈ ykk, ygo w ≠ 0 ∧ 1 ≤ ydo (ygo w) ∧ ydo (ygo w) ≤ 5 := by decide
theorem idxW_mem : ∀ {l : List Bs} {w : Bs} {i : Nat}, yhc l w = some i → w ∈ l := fun h => List.mem_of_getElem? (idxW_of h)
theorem find_mem {first : Int} {l : List Bs} {w : Bs} (h : yjd first l w ≠ 0) : w ∈ l ∧ w ≠ [] := by
  unfold yjd at h
  split at h
  · exact absurd rfl h
  · rename_i hne
    cases hi : yhc l w with
    | none => rw [hi] at h; exact absurd rfl h
    | some i => exact ⟨idxW_mem hi, hne⟩
def Fol (l : Nat) (r : List PW) : Prop := (l = 0 → ybh r ≠ [63]) ∧ ybh r ≠ [46] ∧ (ygo (ybh r) = 0 ∨ ydo (ygo (ybh r)) < l)
def FolW (l : Nat) (r : List PW) : Prop := ybh r ≠ [46] ∧ (ygo (ybh r) = 0 ∨ ydo (ygo (ybh r)) < l ∨ (ydo (ygo (ybh r)) = l ∧ l ≠ 3))
theorem FolW.up {l : Nat} {r : List PW} (h : FolW l r) : Fol (l + 1) r := ⟨by omega, h.1, h.2.imp id (by omega)⟩
theorem Fol.weak {l : Nat} {r : List PW} (h : Fol l r) : FolW l r := ⟨h.2.1, h.2.2.imp id .inl⟩
theorem Fol.up {l : Nat} {r : List PW} (h : Fol l r) : Fol (l + 1) r := h.weak.up
theorem fol_sign {l : Nat} {w : Bs} {r : List PW} (hw : ygo w = 0) (hd : w ≠ [46]) (h : w ≠ [63] ∨ l ≠ 0) : Fol l (pwS w :: r) := ⟨fun e => h.elim id (fun h => absurd e h), hd, .inl hw⟩
theorem fol_op {l : Nat} {w : Bs} {r : List PW} (hw : w ∈ ykk) (h : ydo (ygo w) < l) : Fol l (pwS w :: r) := ⟨fun e => by omega, fun e => by have e : w = [46] := e; rw [e] at hw; revert hw; decide, .inr h⟩
def Ans (nm : Bs → Bool) (names : List Bs) (l : Nat) (e : List Tm) (ws : List PW) : Prop :=
  (l = 0 → ∀ r, Fol 0 r → ygl nm names .choice (ws ++ r) (.ok e r)) ∧
  (1 ≤ l → l ≤ 5 → ∀ r res, FolW l r → ygl nm names (.tail l e) r res → ygl nm names (.bin l) (ws ++ r) res) ∧
  (l = 6 → ∀ r, ybh r ≠ [46] → ygl nm names .unary (ws ++ r) (.ok e r)) ∧
  (l = 7 → (∀ r, ybh r ≠ [46] → ygl nm names .prim (ws ++ r) (.ok e r)) ∧ ybh ws ≠ [45] ∧ ybh ws ≠ [33] ∧ ws ≠ [])
theorem Ans.full {l : Nat} {e : List Tm} {ws : List PW} (h : Ans nm names l e ws) (h1 : 1 ≤ l) (h5 : l ≤ 5) {r : List PW} (hr : Fol l r) : ygl nm names (.bin l) (ws ++ r) (.ok e r) :=
  h.2.1 h1 h5 r _ hr.weak (p_tail0 (hr.2.2.imp id (by omega)))
theorem Ans.bin {l : Nat} {e : List Tm} {ws : List PW} (h : Ans nm names l e ws) (h1 : 1 ≤ l) (h5 : l ≤ 6) {r : List PW} (hr : Fol l r) : ygl nm names (.bin l) (ws ++ r) (.ok e r) := by
  by_cases e : l = 6
  · subst e; exact p_bin6 (h.2.2.1 rfl r hr.2.1)
  · exact h.full h1 (by omega) hr
theorem headW_app {a b : List PW} (h : a ≠ []) : ybh (a ++ b) = ybh a := by
  cases a with
  | nil => exact absurd rfl h
  | cons x a => rfl
theorem ygn {e : List Tm} {ws : List PW} (h : ∀ r, ybh r ≠ [46] → ygl nm names .prim (ws ++ r) (.ok e r)) (h1 : ybh ws ≠ [45]) (h2 : ybh ws ≠ [33]) (hne : ws ≠ []) : Ans nm names 7 e ws := ⟨by omega, by omega, by omega, fun _ => ⟨h, h1, h2, hne⟩⟩
theorem wr_ans (hN : NmOk nm names) {l : Nat} {E : Ex} {x : Bs} {ws : List PW} (h : Wr names l E x ws) : Ans nm names l E.fl ws := by
  induction h with
  | @down l E x ws hl h ih =>
    refine ⟨fun e r hr => ?_, fun h1 h5 r res hr ht => p_bin (by omega) (ih.bin (by omega) (by omega) hr.up) ht, fun e r hr => ?_, fun e => by omega⟩
    · subst e
      exact p_choice1 (ih.bin (by omega) (by omega) hr.up) (hr.1 rfl)
    · subst e
      obtain ⟨h1, h2, h3, h4⟩ := ih.2.2.2 rfl
      exact p_prim (by rw [headW_app h4]; exact h2) (by rw [headW_app h4]; exact h3) (h1 r hr)
  | @paren E x ws h ih =>
    refine ygn (fun r hr => ?_) (by simp [ybh, pwS]) (by simp [ybh, pwS]) (by simp)
    rw [List.cons_append, List.append_assoc]
    exact p_paren (by simp [pwS]) rfl (ih.1 rfl _ (fol_sign (by decide) (by decide) (.inl (by decide)))) rfl
  | @choice a b c xa xb xc wa wb wc ha hb hc iha ihb ihc =>
    refine ⟨fun _ r hr => ?_, by omega, by omega, by omega⟩
    have h3 := ihc.1 rfl r hr
    have h2 := ihb.1 rfl (pwS [58] :: (wc ++ r)) (fol_sign (by decide) (by decide) (.inl (by decide)))
    have h1 := iha.full (by omega) (by omega) (r := pwS [63] :: (wb ++ (pwS [58] :: (wc ++ r)))) (fol_sign (by decide) (by decide) (.inr (by omega)))
    have := p_choice2 h1 rfl h2 rfl h3
    simpa [Ex.fl] using this
  | @bin op l w a b xa xb wa wb h0 hw hl h3 ha hb iha ihb =>
    have hb5 := bin_words w hw
    rw [h0, hl] at hb5
    refine ⟨by omega, fun _ _ r res hr ht => ?_, by omega, by omega⟩
    rw [List.append_assoc]
    refine iha.2.1 hb5.2.1 hb5.2.2 _ _ ⟨fun e => by have e : w = [46] := e; rw [e] at hw; revert hw; decide, .inr (.inr ⟨by show ydo (ygo w) = l; rw [h0, hl], h3⟩)⟩ ?_
    refine p_tail (t := pwS w) (by show ygo w ≠ 0; rw [h0]; exact hb5.1) (by show ydo (ygo w) = l; rw [h0, hl]) (ihb.bin (by omega) (by omega) hr.up) (fun e => absurd e h3) fun _ => ?_
    show ygl nm names (.tail l ((ygo w, 0) :: (a.fl ++ b.fl))) r res
    rw [h0]
    exact ht
  | @cmp op w a b xa xb wa wb h0 hw hl ha hb iha ihb =>
    have hb5 := bin_words w hw
    rw [h0] at hb5
    refine ⟨by omega, fun _ _ r res hr ht => ?_, by omega, by omega⟩
    have hr3 : ygo (ybh r) = 0 ∨ ydo (ygo (ybh r)) ≠ 3 := by
      rcases hr.2 with h | h | h
      · exact .inl h
      · exact .inr (by omega)
      · exact absurd rfl h.2
    have hres := (p_tail0 (nm := nm) (names := names) (left := (Ex.bi (op, 0) a b).fl) hr3).det ht
    subst hres
    rw [List.append_assoc]
    refine p_bin (by omega) (iha.full (by omega) (by omega) (fol_op hw (by rw [h0, hl]; omega))) ?_
    refine p_tail (t := pwS w) (by show ygo w ≠ 0; rw [h0]; exact hb5.1) (by show ydo (ygo w) = 3; rw [h0, hl]) (ihb.bin (by omega) (by omega) hr.up) (fun e => ?_) fun e => absurd rfl e
    show _ = Res.ok ((ygo w, 0) :: (a.fl ++ b.fl)) r
    rw [h0]; rfl
  | @neg a xa wa ha iha => exact ⟨by omega, by omega, fun _ r hr => p_neg rfl (iha.2.2.1 rfl r hr), by omega⟩
  | @not a xa wa ha iha => exact ⟨by omega, by omega, fun _ r hr => p_not rfl (iha.2.2.1 rfl r hr), by omega⟩
  | @agg op w a xa wa h0 hw ha iha =>
    obtain ⟨g1, g2, g3, g4, g5, g6⟩ := agg_words w hw
    refine ygn (fun r hr => ?_) g5 g6 (by simp)
    have := p_agg (t := pwN w) (t2 := pwS [40]) (t4 := pwS [41]) (r4 := r) (by simp [pwN]) g3 g4 g2 g1 rfl (iha.1 rfl (pwS [41] :: r) (fol_sign (by decide) (by decide) (.inl (by decide)))) rfl
    rw [show yko (pwN w).w = op from h0] at this
    simpa [Ex.fl] using this
  | @num n hn =>
    have hd := dec_digits n
    have hne : dec n ≠ [45] ∧ dec n ≠ [33] := by constructor <;> (intro e; rw [e] at hd; have := hd _ (List.mem_singleton.2 rfl); revert this; decide)
    exact ygn (fun r hr => p_num rfl) hne.1 hne.2 (by simp)
  | @own i w h =>
    have hg := hN.good w (List.mem_of_getElem? h)
    obtain ⟨g1, g2, g3, g4, g5, g6, g7⟩ := hN.res w hg
    exact ygn (fun r hr => p_var (t := pwN w) (by simp [pwN]) g5 g4 g1 g2 hg (idxW_get hN.nodup h)) g6 g7 (by simp)
  | @near i w h =>
    have hg := hN.good w (List.mem_of_getElem? h)
    obtain ⟨g1, g2, g3, g4, g5, g6, g7⟩ := hN.res w hg
    refine ygn (fun r hr => ?_) (by simp [ybh, pwN]) (by simp [ybh, pwN]) (by simp)
    have := p_q (nm := nm) (names := names) (t := pwN [113]) (r := pwS [46] :: pwN w :: r) (by simp [pwN]) rfl
    have e : yho nm names (pwS [46] :: pwN w :: r) = .ok [(12, (i : Int))] r := by
      simp only [yho, ybh, pwS, pwN, if_pos, List.tail_cons, g3, yji, hg, idxW_get hN.nodup h]
    rw [e] at this
    exact this
  | here =>
    refine ygn (fun r hr => ?_) (by simp [ybh, pwN]) (by simp [ybh, pwN]) (by simp)
    have := p_q (nm := nm) (names := names) (t := pwN [113]) (r := r) (by simp [pwN]) rfl
    rw [yho, if_neg hr] at this
    exact this
  | @const op w h0 hw hne =>
    obtain ⟨g1, g2, g3, g4, g5⟩ := const_words w hw hne
    refine ygn (fun r hr => ?_) g4 g5 (by simp)
    have := p_const (nm := nm) (names := names) (t := pwN w) (r := r) (by simp [pwN]) g2 g3 g1
    rw [show yfk (pwN w).w = op from h0] at this
    exact this
  | @field op w h0 hw =>
    refine ygn (fun r hr => ?_) (by simp [ybh, pwN]) (by simp [ybh, pwN]) (by simp)
    have := p_q (nm := nm) (names := names) (t := pwN [113]) (r := pwS [46] :: pwN w :: r) (by simp [pwN]) rfl
    have e : yho nm names (pwS [46] :: pwN w :: r) = .ok [(op, 0)] r := by
      have h1 : op ≠ 0 := h0 ▸ field_words w hw
      simp only [yho, ybh, pwS, pwN, if_pos, List.tail_cons, h0, if_neg h1]
    rw [e] at this
    exact this
end Go.Proofs.YtcpgpiabeimefaaGreatDoor
namespace Go.Proofs.YtcpgpiabeimefaaGreatDoor
open Go.RowKit

def yco : Bool → List UInt8 → Nat
  | _, [] => 0
  | true, c :: r => if c = 10 then 1 + yco false r else 1 + yco true r
  | false, c :: r => if c = 32 ∨ c = 9 ∨ c = 10 ∨ c = 13 then 1 + yco false r else if c = 35 then 1 + yco true r else 0

def yaj (s : ByteArray) (k : Nat) : List UInt8 := s.data.toList.drop k
def ybg (s : ByteArray) (b : Bool) (a : Nat) : Nat := a + yco b (yaj s a)

theorem ybj (s : ByteArray) (k : Nat) (h : k < s.size) : yaj s k = s[k] :: yaj s (k + 1) := by
  unfold yaj
  rw [List.drop_eq_getElem_cons (by simpa using h)]; rfl
theorem bytesFrom_ge (s : ByteArray) (k : Nat) (h : s.size ≤ k) : yaj s k = [] := by
  unfold yaj
  exact List.drop_eq_nil_of_le (by simpa using h)
theorem bytesFrom_drop (s : ByteArray) (k n : Nat) : (yaj s k).drop n = yaj s (k + n) := by
  unfold yaj; rw [List.drop_drop]
theorem ycg (s : ByteArray) (k : Nat) : (yaj s k).length = s.size - k := by
  unfold yaj; simp
theorem skipTo_blank (s : ByteArray) (k : Nat) (h : k < s.size) (hc : s[k] = 32 ∨ s[k] = 9 ∨ s[k] = 10 ∨ s[k] = 13) : ybg s false k = ybg s false (k + 1) := by
  unfold ybg; rw [ybj s k h, yco, if_pos hc]; omega
theorem skipTo_hash (s : ByteArray) (k : Nat) (h : k < s.size) (hc : s[k] = 35) : ybg s false k = ybg s true k := by
  unfold ybg; rw [ybj s k h, yco, yco, if_neg (by rw [hc]; decide), if_pos hc, if_neg (by rw [hc]; decide)]
theorem skipTo_stop (s : ByteArray) (k : Nat) (h : k < s.size) (hc : ¬ (s[k] = 32 ∨ s[k] = 9 ∨ s[k] = 10 ∨ s[k] = 13)) (h35 : ¬ s[k] = 35) : ybg s false k = k := by
  unfold ybg; rw [ybj s k h, yco, if_neg hc, if_neg h35]; rfl
theorem skipTo_in (s : ByteArray) (k : Nat) (h : k < s.size) (hc : ¬ s[k] = 10) : ybg s true k = ybg s true (k + 1) := by
  unfold ybg; rw [ybj s k h, yco, if_neg hc]; omega
theorem skipTo_nl (s : ByteArray) (k : Nat) (h : k < s.size) (hc : s[k] = 10) : ybg s true k = ybg s false k := by
  unfold ybg; rw [ybj s k h, yco, yco, if_pos hc, if_pos (by simp [hc])]
theorem skipTo_end (s : ByteArray) (k : Nat) (b : Bool) (h : s.size ≤ k) : ybg s b k = k := by
  unfold ybg; rw [bytesFrom_ge s k h]; cases b <;> rfl
theorem skipL_le (b : Bool) (r : List UInt8) : yco b r ≤ r.length := by
  induction r generalizing b with
  | nil => cases b <;> simp [yco]
  | cons c r ih =>
    have h1 := ih true
    have h2 := ih false
    cases b <;> simp only [yco, List.length_cons] <;> repeat' split
    all_goals omega
theorem skipTo_bd (s : ByteArray) (b : Bool) (k : Nat) (h : k ≤ s.size) : k ≤ ybg s b k ∧ ybg s b k ≤ s.size := by
  have := skipL_le b (yaj s k)
  rw [ycg] at this
  unfold ybg; omega

def yce (c : UInt8) : Bool := (97 ≤ c && c ≤ 122) || (65 ≤ c && c ≤ 90)
def ybq (c : UInt8) : Bool := 48 ≤ c && c ≤ 57
def ydu (c : UInt8) : Bool := yce c || ybq c || c == 95

def yjp (p : UInt8 → Bool) : List UInt8 → Nat
  | [] => 0
  | c :: r => if p c then 1 + yjp p r else 0
def ydx (p : UInt8 → Bool) (s : ByteArray) (a : Nat) : Nat := a + yjp p (yaj s a)
theorem runL_le (p : UInt8 → Bool) (r : List UInt8) : yjp p r ≤ r.length := by
  induction r with
  | nil => simp [yjp]
  | cons c r ih => simp only [yjp, List.length_cons]; split <;> omega
theorem runTo_bd (p : UInt8 → Bool) (s : ByteArray) (k : Nat) (h : k ≤ s.size) : k ≤ ydx p s k ∧ ydx p s k ≤ s.size := by
  have := runL_le p (yaj s k)
  rw [ycg] at this
  unfold ydx; omega
theorem runTo_yes (p : UInt8 → Bool) (s : ByteArray) (k : Nat) (h : k < s.size) (hp : p s[k] = true) : ydx p s k = ydx p s (k + 1) := by
  unfold ydx; rw [ybj s k h, yjp, if_pos hp]; omega
theorem runTo_no (p : UInt8 → Bool) (s : ByteArray) (k : Nat) (h : k < s.size) (hp : p s[k] = false) : ydx p s k = k := by
  unfold ydx; rw [ybj s k h, yjp, if_neg (by simp [hp])]; rfl
theorem runTo_end (p : UInt8 → Bool) (s : ByteArray) (k : Nat) (h : s.size ≤ k) : ydx p s k = k := by
  unfold ydx; rw [bytesFrom_ge s k h]; rfl
theorem runTo_pos (p : UInt8 → Bool) (s : ByteArray) (k : Nat) (h : k < s.size) (hp : p s[k] = true) : k < ydx p s k := by
  rw [runTo_yes p s k h hp]; have := runTo_bd p s (k + 1) (by omega); omega

def dig (v : Nat) (c : UInt8) : Nat := 10 * v + (c.toNat - 48)
def yjh (v : Nat) (ds : List UInt8) : Nat := ds.foldl dig v
theorem numL_nil (v : Nat) : yjh v [] = v := by unfold yjh; rw [List.foldl_nil]
theorem numL_cons (v : Nat) (c : UInt8) (r : List UInt8) : yjh v (c :: r) = yjh (dig v c) r := by unfold yjh; rw [List.foldl_cons]
theorem numL_snoc (v : Nat) (c : UInt8) (r : List UInt8) : yjh v (r ++ [c]) = dig (yjh v r) c := by unfold yjh; rw [List.foldl_append, List.foldl_cons, List.foldl_nil]
theorem dig_ge (v : Nat) (c : UInt8) : 10 * v ≤ dig v c := by unfold dig; exact Nat.le_add_right _ _
theorem dig_le (v : Nat) (c : UInt8) (h : ybq c = true) : dig v c ≤ 10 * v + 9 := by
  simp only [ybq, Bool.and_eq_true, decide_eq_true_eq, UInt8.le_iff_toNat_le] at h
  have h3 : c.toNat ≤ 57 := h.2
  unfold dig
  generalize c.toNat = d at *
  omega
theorem numL_mono (r : List UInt8) : ∀ v : Nat, v ≤ yjh v r := by
  induction r with
  | nil => intro v; rw [numL_nil]; exact Nat.le_refl _
  | cons c r ih =>
    intro v
    rw [numL_cons]
    have := dig_ge v c
    exact Nat.le_trans (by omega) (ih (dig v c))
def ygr (ds : List UInt8) : Option Nat := if (1 < ds.length ∧ ds.head? = some 48) ∨ 1073741824 < yjh 0 ds then none else some (yjh 0 ds)

theorem numL_take (ds : List UInt8) (k v : Nat) : yjh v (ds.take k) ≤ yjh v ds := by
  have h : yjh v ds = yjh (yjh v (ds.take k)) (ds.drop k) := by unfold yjh; rw [← List.foldl_append, List.take_append_drop]
  rw [h]; exact numL_mono _ _
theorem numRes_big (ds : List UInt8) (k : Nat) (h : 1073741824 < yjh 0 (ds.take k)) : ygr ds = none := by
  have := numL_take ds k 0
  unfold ygr; rw [if_pos (.inr (by omega))]
theorem numRes_zero (ds : List UInt8) (h : 1 < ds.length) (h0 : ds.head? = some 48) : ygr ds = none := by
  unfold ygr; rw [if_pos (.inl ⟨h, h0⟩)]
theorem numRes_ok (ds : List UInt8) (h : ¬ (1 < ds.length ∧ ds.head? = some 48)) (h0 : yjh 0 ds ≤ 1073741824) : ygr ds = some (yjh 0 ds) := by
  unfold ygr; rw [if_neg (fun hq => hq.elim h (fun h1 => by omega))]
theorem take_snoc (s : ByteArray) (k : Nat) (h : k < s.size) : (yaj s 0).take (k + 1) = (yaj s 0).take k ++ [s[k]] := by
  unfold yaj
  rw [List.drop_zero, List.take_succ_eq_append_getElem (by simpa using h)]; rfl
theorem take_all (s : ByteArray) (k : Nat) (h : s.size ≤ k) : (yaj s 0).take k = yaj s 0 := by
  rw [List.take_of_length_le]; rw [ycg]; omega
theorem mem_bytes (s : ByteArray) (k : Nat) (h : k < s.size) : s[k] ∈ yaj s 0 := by
  unfold yaj
  rw [List.drop_zero, Array.mem_toList_iff]
  exact Array.getElem_mem (xs := s.data) h
theorem head_bytes (s : ByteArray) (h : 0 < s.size) : (yaj s 0).head? = some s[0] := by rw [ybj s 0 h]; rfl
theorem digit_bd (c : UInt8) (h : ybq c = true) : 48 ≤ c.toNat ∧ c.toNat ≤ 57 := by
  simpa [ybq, UInt8.le_iff_toNat_le] using h
theorem num_step (s : ByteArray) (k : Nat) (h : k < s.size) : yjh 0 ((yaj s 0).take (k + 1)) = dig (yjh 0 ((yaj s 0).take k)) s[k] := by
  rw [take_snoc s k h, numL_snoc]
theorem dig_int (n : Nat) (c : UInt8) (h : 48 ≤ c.toNat) : ((dig n c : Nat) : Int) = 10 * (n : Int) + ((c.toNat : Int) - 48) := by unfold dig; omega

def yfj (a b : UInt8) : Bool :=
  (a == 46 && b == 46) || (a == 45 && b == 62) || (a == 58 && b == 61) || (a == 38 && b == 38) || (a == 124 && b == 124) || (a == 61 && b == 61) || (a == 33 && b == 61) || (a == 60 && b == 61) || (a == 62 && b == 61)
def sign1B (a : UInt8) : Bool := [59, 58, 44, 40, 41, 46, 63, 60, 62, 43, 45, 42, 47, 37, 33].contains a
def ygf : List UInt8 → Nat
  | a :: b :: _ => if yfj a b then 2 else if sign1B a then 1 else 0
  | [a] => if sign1B a then 1 else 0
  | [] => 0
theorem signL_le (r : List UInt8) : ygf r ≤ r.length := by
  match r with
  | [] => simp [ygf]
  | [a] => simp only [ygf, List.length_cons, List.length_nil]; split <;> omega
  | a :: b :: r => simp only [ygf, List.length_cons]; repeat' split
                   all_goals omega

structure Tok where
  kind : Nat
  from_ : Nat
  to : Nat
  num : Nat

def yhv (r : List UInt8) : Except Nat (Nat × Nat × Nat) :=
  match r with
  | [] => .error 4
  | c :: _ =>
    if yce c then (if 24 < yjp ydu r then .error 5 else .ok (1, yjp ydu r, 0))
    else if ybq c then (match ygr (r.take (yjp ybq r)) with | none => .error 2 | some v => .ok (2, yjp ybq r, v))
    else if ygf r = 0 then .error 4 else .ok (3, ygf r, 0)

theorem runL_pos (p : UInt8 → Bool) (c : UInt8) (r : List UInt8) (h : p c = true) : 1 ≤ yjp p (c :: r) := by
  simp [yjp, h]
theorem tokL_bd {r : List UInt8} {k n v : Nat} (h : yhv r = .ok (k, n, v)) : 1 ≤ n ∧ n ≤ r.length ∧ v ≤ 1073741824 ∧ 1 ≤ k ∧ k ≤ 3 := by
  match r with
  | [] => simp [yhv] at h
  | c :: r =>
    simp only [yhv] at h
    have h1 := runL_le ydu (c :: r)
    have h2 := runL_le ybq (c :: r)
    have h3 := signL_le (c :: r)
    by_cases hl : yce c = true
    · rw [if_pos hl] at h
      have h4 := runL_pos ydu c r (by simp [ydu, hl])
      split at h <;> simp at h
      omega
    · rw [if_neg hl] at h
      by_cases hd : ybq c = true
      · rw [if_pos hd] at h
        have h4 := runL_pos ybq c r hd
        generalize hq : ygr ((c :: r).take (yjp ybq (c :: r))) = q at h
        cases q with
        | none => simp at h
        | some u =>
          simp only [ygr] at hq
          split at hq <;> simp at hq h
          omega
      · rw [if_neg hd] at h
        split at h <;> simp at h
        omega

def consTok (t : Tok) : Except (Nat × Nat) (List Tok) → Except (Nat × Nat) (List Tok)
  | .error e => .error e
  | .ok ts => .ok (t :: ts)

def ygw : Nat → Nat → List UInt8 → Except (Nat × Nat) (List Tok)
  | 0, p, r => if r.drop (yco false r) = [] then .ok [] else .error (p + yco false r, 3)
  | left + 1, p, r =>
    if r.drop (yco false r) = [] then .ok [] else
    match yhv (r.drop (yco false r)) with
    | .error e => .error (p + yco false r, e)
    | .ok (k, n, v) => consTok ⟨k, p + yco false r, p + yco false r + n, v⟩ (ygw left (p + yco false r + n) ((r.drop (yco false r)).drop n))

def ygv (s : ByteArray) : Except (Nat × Nat) (List Tok) := if 16384 < s.size then .error (0, 3) else ygw 4096 0 (yaj s 0)

def joinTok (out : List Tok) : Except (Nat × Nat) (List Tok) → Except (Nat × Nat) (List Tok)
  | .error e => .error e
  | .ok ts => .ok (out ++ ts)
theorem joinTok_cons (out : List Tok) (t : Tok) (x : Except (Nat × Nat) (List Tok)) : joinTok out (consTok t x) = joinTok (out ++ [t]) x := by
  cases x <;> simp [joinTok, consTok]
theorem joinTok_nil (x : Except (Nat × Nat) (List Tok)) : joinTok [] x = x := by cases x <;> rfl

def yeh (s : ByteArray) (out : List Tok) (p : Nat) : Except (Nat × Nat) (List Tok) := joinTok out (ygw (4096 - out.length) p (yaj s p))

theorem restScan_start (s : ByteArray) (h : s.size ≤ 16384) : ygv s = yeh s [] 0 := by
  unfold ygv yeh; rw [if_neg (by omega), joinTok_nil]; rfl
theorem yfs (s : ByteArray) (p : Nat) : (yaj s p).drop (yco false (yaj s p)) = yaj s (ybg s false p) := by
  rw [bytesFrom_drop]; rfl
theorem bytesFrom_nil_iff (s : ByteArray) (k : Nat) : yaj s k = [] ↔ s.size ≤ k := by
  rw [← List.length_eq_zero_iff, ycg]; omega
theorem restScan_end (s : ByteArray) (out : List Tok) (p : Nat) (h : s.size ≤ ybg s false p) : yeh s out p = .ok out := by
  unfold yeh
  cases hl : 4096 - out.length <;>
  · rw [ygw, yfs, if_pos ((bytesFrom_nil_iff _ _).2 h)]; simp [joinTok]
theorem restScan_full (s : ByteArray) (out : List Tok) (p : Nat) (h : ybg s false p < s.size) (hn : out.length = 4096) : yeh s out p = .error (ybg s false p, 3) := by
  unfold yeh
  rw [hn, show 4096 - 4096 = 0 from rfl, ygw, yfs, if_neg (by rw [bytesFrom_nil_iff]; omega)]; rfl
theorem restScan_err (s : ByteArray) (out : List Tok) (p e : Nat) (h : ybg s false p < s.size) (hn : out.length < 4096) (ht : yhv (yaj s (ybg s false p)) = .error e) :
    yeh s out p = .error (ybg s false p, e) := by
  unfold yeh
  obtain ⟨m, hm⟩ : ∃ m, 4096 - out.length = m + 1 := ⟨4096 - out.length - 1, by omega⟩
  rw [hm, ygw, yfs, if_neg (by rw [bytesFrom_nil_iff]; omega), ht]; rfl
theorem restScan_tok (s : ByteArray) (out : List Tok) (p k n v : Nat) (h : ybg s false p < s.size) (hn : out.length < 4096) (ht : yhv (yaj s (ybg s false p)) = .ok (k, n, v)) :
    yeh s out p = yeh s (out ++ [⟨k, ybg s false p, ybg s false p + n, v⟩]) (ybg s false p + n) := by
  unfold yeh
  obtain ⟨m, hm⟩ : ∃ m, 4096 - out.length = m + 1 := ⟨4096 - out.length - 1, by omega⟩
  rw [hm, ygw, yfs, if_neg (by rw [bytesFrom_nil_iff]; omega), ht]
  simp only [joinTok_cons, bytesFrom_drop]
  rw [show 4096 - (out ++ [(⟨k, ybg s false p, ybg s false p + n, v⟩ : Tok)]).length = m by simp; omega]
  rfl
end Go.Proofs.YtcpgpiabeimefaaGreatDoor
namespace Go.Proofs.YtcpgpiabeimefaaGreatDoor
open Go.RowKit

theorem skip_drop (r : List UInt8) : ∀ b : Bool, r.drop (yco b r) ≠ [] → yco false (r.drop (yco b r)) = 0 := by
  induction r with
  | nil => intro b h; simp at h
  | cons c r ih =>
    intro b h
    cases b
    · simp only [yco] at *
      split at h
      · rename_i hc; rw [if_pos hc, Nat.add_comm, List.drop_succ_cons] at *; exact ih false h
      · rename_i hc
        rw [if_neg hc]
        split at h
        · rename_i h35; rw [if_pos h35, Nat.add_comm, List.drop_succ_cons] at *; exact ih true h
        · rename_i h35; rw [if_neg h35, List.drop_zero]; simp [yco, hc, h35]
    · simp only [yco] at *
      split at h
      · rename_i hc; rw [if_pos hc, Nat.add_comm, List.drop_succ_cons] at *; exact ih false h
      · rename_i hc; rw [if_neg hc, Nat.add_comm, List.drop_succ_cons] at *; exact ih true h

def ygy (c : UInt8) : Bool := c == 32 || c == 9 || c == 10 || c == 13 || c == 35
theorem blankB_cases {c : UInt8} (h : ygy c = true) : c = 32 ∨ c = 9 ∨ c = 10 ∨ c = 13 ∨ c = 35 := by simpa [ygy, or_assoc] using h
theorem blank_word {c : UInt8} (h : ygy c = true) : ydu c = false ∧ ybq c = false ∧ yce c = false := by
  rcases blankB_cases h with rfl | rfl | rfl | rfl | rfl <;> decide
theorem blank_sign {c : UInt8} (h : ygy c = true) (a : UInt8) : yfj a c = false := by
  rcases blankB_cases h with rfl | rfl | rfl | rfl | rfl <;> simp [yfj]
def yky (s : ByteArray) : Nat → List Tok → Prop
  | p, [] => p ≤ s.size ∧ ybg s false p = s.size
  | p, t :: ts => p ≤ s.size ∧ t.from_ = ybg s false p ∧ t.from_ < s.size ∧ yhv (yaj s t.from_) = .ok (t.kind, t.to - t.from_, t.num) ∧ t.from_ < t.to ∧ t.to ≤ s.size ∧ yky s t.to ts

theorem good_of_scan (s : ByteArray) (left : Nat) : ∀ (p : Nat) (ts : List Tok), p ≤ s.size → ygw left p (yaj s p) = .ok ts → yky s p ts := by
  have base : ∀ (p : Nat), p ≤ s.size → yaj s (ybg s false p) = [] → yky s p [] := fun p hp h => by
    have h1 := (bytesFrom_nil_iff _ _).1 h
    have h2 := (skipTo_bd s false p hp).2
    exact ⟨hp, by omega⟩
  induction left with
  | zero =>
    intro p ts hp h
    rw [ygw, yfs] at h
    split at h
    · rename_i he; simp at h; subst h; exact base p hp he
    · cases h
  | succ left ih =>
    intro p ts hp h
    rw [ygw, yfs] at h
    split at h
    · rename_i he; simp at h; subst h; exact base p hp he
    · rename_i he
      rw [bytesFrom_nil_iff] at he
      generalize hq : yhv (yaj s (ybg s false p)) = q at h
      match q, hq with
      | .error e, _ => cases h
      | .ok (k, n, v), hq =>
        have hb := tokL_bd hq
        rw [ycg] at hb
        simp only [bytesFrom_drop] at h
        rw [show p + yco false (yaj s p) = ybg s false p from rfl] at h
        generalize hw : ygw left (ybg s false p + n) (yaj s (ybg s false p + n)) = w at h
        cases w with
        | error e => cases h
        | ok us =>
          simp only [consTok] at h
          cases h
          refine ⟨hp, rfl, by show ybg s false p < s.size; omega, ?_, by show ybg s false p < ybg s false p + n; omega, by show ybg s false p + n ≤ s.size; omega, ih _ _ (by show ybg s false p + n ≤ s.size; omega) hw⟩
          show yhv (yaj s (ybg s false p)) = .ok (k, ybg s false p + n - ybg s false p, v)
          rw [hq, Nat.add_sub_cancel_left]
theorem good_of (s : ByteArray) (ts : List Tok) (h : ygv s = .ok ts) : yky s 0 ts := by
  unfold ygv at h
  split at h
  · cases h
  · exact good_of_scan s 4096 0 ts (by omega) h
theorem yky.tail {s : ByteArray} {p : Nat} {t : Tok} {ts : List Tok} (h : yky s p (t :: ts)) : yky s t.to ts := h.2.2.2.2.2.2
theorem yky.len {s : ByteArray} : ∀ {ts : List Tok} {p : Nat}, yky s p ts → ts.length + p ≤ s.size := by
  intro ts
  induction ts with
  | nil => intro p h; have := h.1; simp; omega
  | cons t ts ih =>
    intro p h
    have h1 := ih h.tail
    obtain ⟨h2, h3, h4, _, h5, h6, _⟩ := h
    have := (skipTo_bd s false p h2).1
    simp; omega
theorem yky.mem {s : ByteArray} : ∀ {ts : List Tok} {p : Nat}, yky s p ts → ∀ t ∈ ts, t.from_ < s.size ∧ yhv (yaj s t.from_) = .ok (t.kind, t.to - t.from_, t.num) ∧ t.from_ < t.to ∧ t.to ≤ s.size ∧ yco false (yaj s t.from_) = 0 := by
  intro ts
  induction ts with
  | nil => intro p _ t ht; cases ht
  | cons u ts ih =>
    intro p h t ht
    cases ht with
    | head =>
      obtain ⟨h2, h3, h4, h7, h5, h6, _⟩ := h
      refine ⟨h4, h7, h5, h6, ?_⟩
      rw [h3, ← yfs]
      refine skip_drop _ false ?_
      rw [yfs, ← h3]
      intro h8
      rw [bytesFrom_nil_iff] at h8; omega
    | tail _ ht => exact ih h.tail t ht

theorem run_all (p : UInt8 → Bool) (r : List UInt8) : ∀ c ∈ r.take (yjp p r), p c = true := by
  induction r with
  | nil => simp
  | cons x r ih =>
    intro c hc
    simp only [yjp] at hc
    by_cases hx : p x = true
    · rw [if_pos hx, Nat.add_comm, List.take_succ_cons] at hc
      cases hc with
      | head => exact hx
      | tail _ h => exact ih c h
    · rw [if_neg hx] at hc; simp at hc
end Go.Proofs.YtcpgpiabeimefaaGreatDoor
