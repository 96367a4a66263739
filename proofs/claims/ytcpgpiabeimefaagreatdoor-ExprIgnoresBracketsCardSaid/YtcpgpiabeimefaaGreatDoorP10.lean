/- Part 10 of the texts under ExprParses,ExprIsStable,ExprReadsBack,ExprIgnoresBrackets,ExprFormats,ExprBracketsEverything: joined, with what it needs alone. -/
import Derived.Below
import Derived.Lib.Split
import Derived.Lib.SplitLaws
import GoSem.Core.Utf8
import Derived.Lib.ItoaNum
import Derived.Test.YtcpgpiabeimefaaGreatDoorP9
set_option linter.unusedVariables false
set_option maxHeartbeats 4000000
namespace Go.Proofs.YtcpgpiabeimefaaGreatDoor
open Go.RowKit
section
variable {P : Program} {ty : TypeId} {h : Nat → Option LObj} {ρ : Operand → Option AV}
theorem yau {g x0 : Operand} {args : List Operand} {ats : Array TypeId} {f : FuncId} {id off : Nat} {xs args' : List AV} {x : Value} (hf : ρ g = some (.fn f [])) (hx0 : ρ x0 = some (.lp id off)) (hh : h id = some (.cells xs)) (hp : ybv.pureL xs = true) (hx : evL ρ args = some args') (hc : Con P f (.dp xs off :: args') (.v x)) :
    ydj P h ρ (.call { callee := .value g, args := (x0 :: args).toArray, argTypes := ats }) ty (.v x) := by
  intro B ok0 lv w a o ho hty hi hops K Q hK
  have hfr := hops g _ (by simp [Op.operands, Call.operands]) hf
  have h0 := hops x0 _ (by simp [Op.operands, Call.operands]) hx0
  have har := evL_rel (a := a) args args' (fun x y hm => hops x y (by simp [Op.operands, Call.operands, hm])) hx
  obtain ⟨b, n, hb, hv0, hcl⟩ := ydb hi (by rw [hh]; rfl) (.inr hh) h0
  obtain ⟨_, _, _, hlt, _⟩ := hi.lvat hb
  have hok : ∀ g, ybt B ok0 lv w g → (fun g => ybt B ok0 lv w g ∨ g = b) g := fun g hg => .inl hg
  generalize hv : a.eval g = v at hfr
  cases hfr with
  | fn vs hl hr =>
    obtain rfl : vs = [] := List.eq_nil_of_length_eq_zero hl
    have hall : ycg (fun g => ybt B ok0 lv w g ∨ g = b) w (fun _ => none) (.dp xs off :: args') (a.eval x0 :: args.map a.eval) := by
      refine ⟨by simp [har.1], fun i y u hy hu => ?_⟩
      cases i with
      | zero =>
        simp only [List.getElem?_cons_zero, Option.some.injEq] at hy hu
        subst hy hu
        rw [hv0]
        have := Rel.dp (ok := fun g => ybt B ok0 lv w g ∨ g = b) (w := w) (lv := fun _ => none) (row := xs) (off := off) b 0 (fun j => (w.cell? ⟨b, 0 + j, none⟩).getD undef) (.inr rfl) (fun j c hj => ?_) (fun j c hj => ?_)
        · rwa [Nat.zero_add] at this
        · obtain ⟨h1, u, h2, h3⟩ := hcl j c hj
          exact ⟨by rw [h2]; rfl, h1⟩
        · obtain ⟨h1, u, h2, h3⟩ := hcl j c hj
          rw [h2]
          exact (h3.relive fun id b n hb _ => by cases hb).keep fun g hg => ⟨.inl hg, rfl⟩
      | succ i =>
        exact ((har.2 i y u (by simpa using hy) (by simpa using hu)).relive fun id b n hb _ => by cases hb).keep fun g hg => ⟨.inl hg, rfl⟩
    have hrun : (execOp a.eval o).run P w = .ok (.enter f (a.eval x0 :: args.map a.eval).toArray) w := by
      unfold execOp
      simp only [ho, resolve, Deferred.ofValue, hv, Sem.run_bind, Sem.run_pure, Result.andThen_ok, invoke]
      rw [run_callFunc hc.1]
      simp
    unfold Oper.wp
    rw [hrun]
    refine (hc.2.2 (fun g => ybt B ok0 lv w g ∨ g = b) w (a.eval x0 :: args.map a.eval) hi.base.glob (fun g hg => hg.elim (fun h => h.lt) (fun h => h ▸ hlt)) hall).mono fun e w' ⟨u, he, hu, hb⟩ => ?_
    subst he
    refine hK u w' ?_ (hi.grow hb) hb
    cases hu
    exact .v _
end
theorem ycp {P : Program} {ty : TypeId} {h : Nat → Option LObj} {ρ : Operand → Option AV} {x : Operand} {row : List AV} {off : Nat} (hx : ρ x = some (.dp row off)) : ydj P h ρ (.nilCheck x) ty (.dp row off) :=
  yba fun B ok0 lv w a o ho hty hi hops => by
    have hr := hops x _ (by simp [Op.operands]) hx
    obtain ⟨g, q, hv, _⟩ := cells_of_dp hr
    exact ⟨a.eval x, by simp [execOp, ho, hv], hr⟩
theorem renA_pureX {σ : Nat → Nat} : ∀ {x : AV}, ybv x = true → renA σ x = x
  | .v _, _ => rfl
  | .any, _ => rfl
  | .one, _ => rfl
  | .sl _ _, _ => rfl
  | .dp _ _, _ => rfl
  | .mv _, _ => rfl
  | .agg cs, h => by simp only [renA, rows (cs := cs) h]
  | .tup cs, h => by simp only [renA, rows (cs := cs) h]
  | .fn _ cs, h => by simp only [renA, rows (cs := cs) h]
  where rows : ∀ {cs : List AV}, ybv.pureL cs = true → renA.renL σ cs = cs
  | [], _ => rfl
  | c :: cs, h => by
    simp only [ybv.pureL, Bool.and_eq_true] at h
    simp only [renA.renL, renA_pureX h.1, rows h.2]
theorem nbeq_refl (b : Nat) : Nat.beq b b = true := Nat.beq_refl b
def keepOneX (b : Nat) (y : AV) : Bool := match ment b y with
  | false => true
  | true => match y with
    | .lp _ _ => true
    | _ => false
def keepAllX (b : Nat) : List (Nat × AV) → Bool
  | [] => true
  | (_, y) :: t => match keepOneX b y with
    | true => keepAllX b t
    | false => false
theorem keepX (b : Nat) {ys : List AV} : ∀ {t : List (Nat × AV)}, keepAllX b t = true → forgTM [(1001, b)] [(1001, some (.cells ys))] t = t
  | [], _ => rfl
  | (x, y) :: t, h => by
    simp only [keepAllX] at h
    have hk : keepB [(1001, b)] [(1001, some (.cells ys))] y = true := by
      simp only [keepOneX] at h
      simp only [keepB, mentAny, ydu]
      cases hm : ment b y with
      | false => rfl
      | true =>
        simp only [hm] at h
        cases y with
        | lp j off =>
          have e : j = b := Nat.eq_of_beq_eq_true hm
          subst e
          simp only [fixedN]
          rw [nbeq_refl]
          rfl
        | _ => cases h
    simp only [forgTM, hk]
    cases ho : keepOneX b y with
    | true => rw [ho] at h; rw [keepX b h]
    | false => rw [ho] at h; cases h
section
variable {P : Program} {N : Nat} {ops : Array Oper} {lf : Oper → Bool} {Q : SS → Prop} {t : List (Nat × AV)} {h : List (Nat × Option LObj)} {rest : List Oper} {d : Nat} {ty : TypeId} {pos : String} {af : Array Edge} {gd : Option (Nat × Bool)}
theorem ybl (b : Nat) {xs ys : List AV} {g : Operand} {args : List Operand} {ats : Array TypeId} {f : FuncId} {args0 : List AV} {r : AV} {h' : List (Nat × Option LObj)} (hc : ConM P f (.lp 1001 0 :: args0) (yaq [(1001, some (.cells xs))]) r (yaq [(1001, some (.cells ys))])) (hpx : ybv.pureL xs = true) (hpy : ybv.pureL ys = true) (hp : ybv.pureL args0 = true) (hpr : ybv r = true) (hg : evF (ybk t) g = some (.fn f [])) (hx : evL (evF (ybk t)) args = some (.lp b 0 :: args0))
    (hb : yaq h b = some (.cells xs)) (hk : keepAllX b t = true) (hh : forgHs [b] (dropK [b] h) = some h') (hl : lf ⟨some d, .call { callee := .value g, args := args.toArray, argTypes := ats }, ty, pos, af, gd⟩ = true) (hw : ybh ops (ybk t) ⟨some d, .call { callee := .value g, args := args.toArray, argTypes := ats }, ty, pos, af, gd⟩ = some true) (hd : Nat.blt d N = true)
    (k : Lex P N ops lf Q rest (S ((d, r) :: t) ((b, some (.cells ys)) :: h'))) : Lex P N ops lf Q (⟨some d, .call { callee := .value g, args := args.toArray, argTypes := ats }, ty, pos, af, gd⟩ :: rest) (S t h) := by
  have rx : ∀ σ, renO σ (.cells xs) = .cells xs := fun σ => by simp only [renO, renA_pureX.rows hpx]
  have ry : ∀ σ, renO σ (.cells ys) = .cells ys := fun σ => by simp only [renO, renA_pureX.rows hpy]
  refine L_callM [(1001, b)] hc hg hx ?_ rfl rfl rfl rfl (yai ?_ yan) (pureA_onlyX hpr) ?_ hh hl hw hd ?_
  · simp only [List.append_nil, List.map_cons, renA, yff]
    congr 1
    rw [← ycw, renA_pureX.rows hp]
  · rw [rx]; exact hb
  · simp only [onlyHs, onlyO, pureA_onlyX.rows hpy]; rfl
  · rw [keepX b hk, renA_pureX hpr]
    simp only [backH, yaq, ry]
    exact k
end
end Go.Proofs.YtcpgpiabeimefaaGreatDoor
namespace Go.Proofs.YtcpgpiabeimefaaGreatDoor
open Go.RowKit

abbrev Tm := Int × Int

def ar (op : Int) : Int := if op < 1 ∨ 43 < op then -1 else if op ≤ 17 then 0 else if op ≤ 29 then 1 else if op ≤ 42 then 2 else 3
def aggB (op : Int) : Bool := decide (20 ≤ op) && decide (op ≤ 29)
theorem ar_bd (op : Int) : -1 ≤ ar op ∧ ar op ≤ 3 := by unfold ar; repeat' split
                                                        all_goals omega

inductive Ex where
  | lf (t : Tm)
  | un (t : Tm) (a : Ex)
  | bi (t : Tm) (a b : Ex)
  | tr (t : Tm) (a b c : Ex)

namespace Ex
def fl : Ex → List Tm
  | lf t => [t]
  | un t a => t :: a.fl
  | bi t a b => t :: (a.fl ++ b.fl)
  | tr t a b c => t :: (a.fl ++ (b.fl ++ c.fl))
def ok : Ex → Prop
  | lf t => ar t.1 = 0
  | un t a => ar t.1 = 1 ∧ a.ok
  | bi t a b => ar t.1 = 2 ∧ a.ok ∧ b.ok
  | tr t a b c => ar t.1 = 3 ∧ a.ok ∧ b.ok ∧ c.ok
def dp : Ex → Nat
  | lf _ => 1
  | un _ a => a.dp + 1
  | bi _ a b => max a.dp b.dp + 1
  | tr _ a b c => max a.dp (max b.dp c.dp) + 1
def ns : Ex → Nat
  | lf _ => 0
  | un t a => if aggB t.1 then a.ns + 1 else a.ns
  | bi _ a b => max a.ns b.ns
  | tr _ a b c => max a.ns (max b.ns c.ns)
theorem fl_pos (E : Ex) : 1 ≤ E.fl.length := by cases E <;> simp [fl]
end Ex

def endN : Nat → List Tm → Option Nat
  | 0, _ => some 0
  | _ + 1, [] => none
  | w + 1, t :: l => if ar t.1 < 0 then none else (endN (w + (ar t.1).toNat) l).map (· + 1)
theorem endN_zero (l : List Tm) : endN 0 l = some 0 := by cases l <;> rfl
theorem endN_nil (w : Nat) : endN (w + 1) [] = none := rfl
theorem endN_bad (w : Nat) (t : Tm) (l : List Tm) (h : ar t.1 < 0) : endN (w + 1) (t :: l) = none := by simp only [endN]; rw [if_pos h]
theorem endN_step (w : Nat) (t : Tm) (l : List Tm) (h : ¬ ar t.1 < 0) : endN (w + 1) (t :: l) = (endN (w + (ar t.1).toNat) l).map (· + 1) := by simp only [endN]; rw [if_neg h]
theorem endN_fl (E : Ex) : E.ok → ∀ (w : Nat) (r : List Tm), endN (w + 1) (E.fl ++ r) = (endN w r).map (· + E.fl.length) := by
  induction E with
  | lf t =>
    intro h w r
    have h' : ar t.1 = 0 := h
    simp only [Ex.fl, List.cons_append, List.nil_append]
    rw [endN_step w t r (by omega), h']; rfl
  | un t a iha =>
    intro ⟨h, ha⟩ w r
    simp only [Ex.fl, List.cons_append]
    rw [endN_step w t _ (by omega), h, show w + (1 : Int).toNat = w + 1 from rfl, iha ha, Option.map_map]
    congr 1
  | bi t a b iha ihb =>
    intro ⟨h, ha, hb⟩ w r
    simp only [Ex.fl, List.cons_append, List.append_assoc]
    rw [endN_step w t _ (by omega), h, show w + (2 : Int).toNat = (w + 1) + 1 from rfl, iha ha, ihb hb, Option.map_map, Option.map_map]
    congr 1
    funext x; simp [List.length_append]; omega
  | tr t a b c iha ihb ihc =>
    intro ⟨h, ha, hb, hc⟩ w r
    simp only [Ex.fl, List.cons_append, List.append_assoc]
    rw [endN_step w t _ (by omega), h, show w + (3 : Int).toNat = ((w + 1) + 1) + 1 from rfl, iha ha, ihb hb, ihc hc, Option.map_map, Option.map_map, Option.map_map]
    congr 1
    funext x; simp [List.length_append]; omega

def yel : List Tm → Option (List Ex)
  | [] => some []
  | t :: l =>
    match yel l with
    | none => none
    | some F =>
      if ar t.1 = 0 then some (.lf t :: F)
      else if ar t.1 = 1 then (match F with | a :: F => some (.un t a :: F) | _ => none)
      else if ar t.1 = 2 then (match F with | a :: b :: F => some (.bi t a b :: F) | _ => none)
      else if ar t.1 = 3 then (match F with | a :: b :: c :: F => some (.tr t a b c :: F) | _ => none)
      else none
theorem forest_fl (E : Ex) : E.ok → ∀ (r : List Tm) (F : List Ex), yel r = some F → yel (E.fl ++ r) = some (E :: F) := by
  induction E with
  | lf t => intro h r F hr; have h' : ar t.1 = 0 := h; simp [Ex.fl, yel, hr, h']
  | un t a iha => intro ⟨h, ha⟩ r F hr; simp [Ex.fl, yel, iha ha r F hr, h]
  | bi t a b iha ihb => intro ⟨h, ha, hb⟩ r F hr; simp [Ex.fl, yel, iha ha _ _ (ihb hb r F hr), h]
  | tr t a b c iha ihb ihc => intro ⟨h, ha, hb, hc⟩ r F hr; simp [Ex.fl, yel, iha ha _ _ (ihb hb _ _ (ihc hc r F hr)), h]
def flAll (F : List Ex) : List Tm := F.flatMap Ex.fl
theorem forest_inv (l : List Tm) : ∀ F, yel l = some F → (∀ E ∈ F, E.ok) ∧ flAll F = l := by
  induction l with
  | nil => intro F h; simp [yel] at h; subst h; simp [flAll]
  | cons t l ih =>
    intro F h
    simp only [yel] at h
    cases hl : yel l with
    | none => rw [hl] at h; cases h
    | some G =>
      obtain ⟨h1, h2⟩ := ih G hl
      rw [hl] at h
      simp only at h
      by_cases a0 : ar t.1 = 0
      · rw [if_pos a0] at h; cases h
        refine ⟨fun E hE => ?_, by simp only [flAll, List.flatMap_cons, Ex.fl] at *; rw [h2]; rfl⟩
        cases hE with
        | head => exact a0
        | tail _ hE => exact h1 E hE
      rw [if_neg a0] at h
      by_cases a1 : ar t.1 = 1
      · rw [if_pos a1] at h
        match G, h, h1, h2 with
        | a :: G, h, h1, h2 =>
          cases h
          refine ⟨fun E hE => ?_, by simp only [flAll, List.flatMap_cons, Ex.fl] at *; rw [← h2]; rfl⟩
          cases hE with
          | head => exact ⟨a1, h1 a (List.mem_cons_self ..)⟩
          | tail _ hE => exact h1 E (List.mem_cons_of_mem _ hE)
      rw [if_neg a1] at h
      by_cases a2 : ar t.1 = 2
      · rw [if_pos a2] at h
        match G, h, h1, h2 with
        | a :: b :: G, h, h1, h2 =>
          cases h
          refine ⟨fun E hE => ?_, by simp only [flAll, List.flatMap_cons, Ex.fl] at *; rw [← h2]; simp⟩
          cases hE with
          | head => exact ⟨a2, h1 a (by simp), h1 b (by simp)⟩
          | tail _ hE => exact h1 E (List.mem_cons_of_mem _ (List.mem_cons_of_mem _ hE))
      rw [if_neg a2] at h
      by_cases a3 : ar t.1 = 3
      · rw [if_pos a3] at h
        match G, h, h1, h2 with
        | a :: b :: c :: G, h, h1, h2 =>
          cases h
          refine ⟨fun E hE => ?_, by simp only [flAll, List.flatMap_cons, Ex.fl] at *; rw [← h2]; simp⟩
          cases hE with
          | head => exact ⟨a3, h1 a (by simp), h1 b (by simp), h1 c (by simp)⟩
          | tail _ hE => exact h1 E (List.mem_cons_of_mem _ (List.mem_cons_of_mem _ (List.mem_cons_of_mem _ hE)))
      rw [if_neg a3] at h; cases h

def parse (l : List Tm) : Option Ex := match yel l with | some [E] => some E | _ => none
theorem parse_fl (E : Ex) (h : E.ok) : parse E.fl = some E := by
  have := forest_fl E h [] [] rfl
  rw [List.append_nil] at this
  unfold parse; rw [this]
theorem yfj {l : List Tm} {E : Ex} (h : parse l = some E) : E.ok ∧ E.fl = l := by
  unfold parse at h
  split at h
  · rename_i E' hf
    cases h
    obtain ⟨h1, h2⟩ := forest_inv l _ hf
    exact ⟨h1 E (by simp), by simpa [flAll] using h2⟩
  · cases h

theorem endN_forest (l : List Tm) : ∀ (w n : Nat), endN w l = some n → ∃ F : List Ex, F.length = w ∧ (∀ E ∈ F, E.ok) ∧ l.take n = flAll F := by
  induction l with
  | nil => intro w n h; cases w <;> simp [endN] at h; exact ⟨[], rfl, by simp, by simp [flAll]⟩
  | cons t l ih =>
    intro w n h
    cases w with
    | zero => rw [endN_zero] at h; cases h; exact ⟨[], rfl, by simp, by simp [flAll]⟩
    | succ w =>
      by_cases hb : ar t.1 < 0
      · rw [endN_bad w t l hb] at h; cases h
      · rw [endN_step w t l hb, Option.map_eq_some_iff] at h
        obtain ⟨m, hm, rfl⟩ := h
        obtain ⟨F, h1, h2, h3⟩ := ih _ _ hm
        rw [List.take_succ_cons, h3]
        have hk := ar_bd t.1
        have cases4 : ar t.1 = 0 ∨ ar t.1 = 1 ∨ ar t.1 = 2 ∨ ar t.1 = 3 := by omega
        rcases cases4 with hk | hk | hk | hk <;> rw [hk] at h1
        · exact ⟨.lf t :: F, by simp at *; omega, fun E hE => by
            cases hE with
            | head => exact hk
            | tail _ hE => exact h2 E hE, by simp [flAll, Ex.fl]⟩
        · match F, h1, h2 with
          | a :: F, h1, h2 => exact ⟨.un t a :: F, by simp at *; omega, fun E hE => by
              cases hE with
              | head => exact ⟨hk, h2 a (by simp)⟩
              | tail _ hE => exact h2 E (List.mem_cons_of_mem _ hE), by simp [flAll, Ex.fl]⟩
          | [], h1, _ => simp at h1
        · match F, h1, h2 with
          | a :: b :: F, h1, h2 => exact ⟨.bi t a b :: F, by simp at *; omega, fun E hE => by
              cases hE with
              | head => exact ⟨hk, h2 a (by simp), h2 b (by simp)⟩
              | tail _ hE => exact h2 E (List.mem_cons_of_mem _ (List.mem_cons_of_mem _ hE)), by simp [flAll, Ex.fl]⟩
          | [a], h1, _ => simp at h1
          | [], h1, _ => simp at h1
        · match F, h1, h2 with
          | a :: b :: c :: F, h1, h2 => exact ⟨.tr t a b c :: F, by simp at *; omega, fun E hE => by
              cases hE with
              | head => exact ⟨hk, h2 a (by simp), h2 b (by simp), h2 c (by simp)⟩
              | tail _ hE => exact h2 E (List.mem_cons_of_mem _ (List.mem_cons_of_mem _ (List.mem_cons_of_mem _ hE))), by simp [flAll, Ex.fl]⟩
          | [a, b], h1, _ => simp at h1
          | [a], h1, _ => simp at h1
          | [], h1, _ => simp at h1

theorem parse_iff (l : List Tm) : (∃ E, parse l = some E) ↔ endN 1 l = some l.length := by
  constructor
  · rintro ⟨E, h⟩
    obtain ⟨h1, h2⟩ := yfj h
    have := endN_fl E h1 0 []
    rw [List.append_nil, h2, endN_zero] at this
    simpa using this
  · intro h
    obtain ⟨F, h1, h2, h3⟩ := endN_forest l 1 l.length h
    match F, h1, h2, h3 with
    | [E], _, h2, h3 =>
      refine ⟨E, ?_⟩
      rw [List.take_length] at h3
      rw [h3, flAll, List.flatMap_cons, List.flatMap_nil, List.append_nil]
      exact parse_fl E (h2 E (by simp))

def argB (vars : Int) (t : Tm) : Bool :=
  if t.1 = 1 then decide (0 ≤ t.2) && decide (t.2 ≤ 1073741824) else if t.1 = 5 ∨ t.1 = 12 then decide (0 ≤ t.2) && decide (t.2 < vars) else decide (t.2 = 0)
def yda (l : List Tm) (vars : Int) : Bool :=
  match parse l with
  | none => false
  | some E => decide (l.length ≤ 200) && (l.all (argB vars) && (decide (E.dp ≤ 24) && decide (E.ns ≤ 2)))
end Go.Proofs.YtcpgpiabeimefaaGreatDoor
set_option linter.unusedVariables false
namespace Go.Proofs.YtcpgpiabeimefaaGreatDoor
open Go.RowKit

abbrev Lk := Int × Int
structure GraphD where
  ids : List Int
  ports : List (List Lk)
def GraphD.n (g : GraphD) : Nat := g.ports.length

end Go.Proofs.YtcpgpiabeimefaaGreatDoor

set_option linter.unusedVariables false
namespace Go.Proofs.YtcpgpiabeimefaaGreatDoor

theorem take_next {α : Type} {l : List α} {k : Nat} {x : α} (hx : l[k]? = some x) : l.take (k + 1) = l.take k ++ [x] := by
  rw [List.take_add_one, hx]; rfl
def bits (l : List Int) : List Bool := (List.range 256).map fun i : Nat => decide ((i : Int) ∈ l)
end Go.Proofs.YtcpgpiabeimefaaGreatDoor
namespace Go.Proofs.YtcpgpiabeimefaaGreatDoor
end Go.Proofs.YtcpgpiabeimefaaGreatDoor
set_option linter.unusedVariables false
namespace Go.Proofs.YtcpgpiabeimefaaGreatDoor

abbrev Bs := List UInt8
def ba (l : Bs) : ByteArray := ⟨l.toArray⟩
def bl (s : ByteArray) : Bs := s.data.toList
theorem ydp (l : Bs) : bl (ba l) = l := by simp [bl, ba]
theorem ba_bl (s : ByteArray) : ba (bl s) = s := Lib.mk_data s
theorem ybb (l : Bs) : (ba l).size = l.length := by simp [ba, ByteArray.size]
end Go.Proofs.YtcpgpiabeimefaaGreatDoor
set_option linter.unusedVariables false
namespace Go.Proofs.YtcpgpiabeimefaaGreatDoor
structure PW where
  w : Bs
  k : Nat
  v : Nat
def idxW : List Bs → Bs → Option Nat
  | [], _ => none
  | x :: l, w => if x = w then some 0 else (idxW l w).map (· + 1)
def findL (first : Int) (l : List Bs) (w : Bs) : Int :=
  if w = [] then 0 else match idxW l w with
    | some i => first + i
    | none => 0
def binL : List Bs := [[42], [47], [37], [43], [45], [61, 61], [33, 61], [60], [60, 61], [62], [62, 61], [38, 38], [124, 124]]
def aggL : List Bs := [[97, 108, 108], [115, 111, 109, 101], [99, 111, 117, 110, 116], [102, 105, 114, 115, 116], [109, 105, 110], [109, 97, 120], [115, 117, 109], [109, 101, 120], [115, 101, 99, 111, 110, 100], [104, 101, 97, 100]]
def constL : List Bs := [[116, 114, 117, 101], [102, 97, 108, 115, 101], [110, 111, 110, 101], [], [110], [105, 100, 115], [105, 100], [100, 101, 103], [114, 111, 111, 116]]
def fieldL : List Bs := [[105, 100], [100, 101, 103], [114, 111, 111, 116], [119, 101, 105, 103, 104, 116], [98, 97, 99, 107]]
def binO (w : Bs) : Int := findL 30 binL w
def aggO (w : Bs) : Int := findL 20 aggL w
def yeu (w : Bs) : Int := findL 2 constL w
def fieldO (w : Bs) : Int := findL 13 fieldL w
def yef (op : Int) : Nat :=
  if op = 43 then 0 else if op = 42 then 1 else if op = 41 then 2 else if 35 ≤ op ∧ op ≤ 40 then 3 else if op = 33 ∨ op = 34 then 4 else if 30 ≤ op ∧ op ≤ 32 then 5 else if op = 18 ∨ op = 19 then 6 else 7
def ybg : List PW → Bs
  | [] => []
  | t :: _ => t.w
inductive Res where
  | ok (e : List Tm) (rest : List PW)
  | bad (err : Int) (rest : List PW)
def andR (x : Option Res) (k : List Tm → List PW → Option Res) : Option Res :=
  match x with
  | some (.ok e r) => k e r
  | some (.bad c r) => some (.bad c r)
  | none => none
def wantW (w : Bs) (ts : List PW) (k : List PW → Option Res) : Option Res :=
  match ts with
  | [] => some (.bad 4 [])
  | t :: r => if t.w = w then k r else some (.bad 4 (t :: r))
def varR (nm : Bs → Bool) (names : List Bs) (op : Int) : List PW → Res
  | [] => .bad 4 []
  | t :: r => if nm t.w = true then (match idxW names t.w with
    | some x => .ok [(op, (x : Int))] r
    | none => .bad 5 (t :: r)) else .bad 4 (t :: r)
def nearR (nm : Bs → Bool) (names : List Bs) (ts : List PW) : Res :=
  if ybg ts = [46] then (if fieldO (ybg ts.tail) = 0 then varR nm names 12 ts.tail else .ok [(fieldO (ybg ts.tail), 0)] ts.tail.tail) else .ok [(11, 0)] ts
inductive NT where
  | choice
  | bin (l : Nat)
  | tail (l : Nat) (left : List Tm)
  | unary
  | prim
def PP (nm : Bs → Bool) (names : List Bs) : Nat → NT → List PW → Option Res
  | 0, _, _ => none
  | f + 1, .choice, ts => andR (PP nm names f (.bin 1) ts) fun c r =>
      if ybg r = [63] then andR (PP nm names f .choice r.tail) fun y r2 => wantW [58] r2 fun r3 => andR (PP nm names f .choice r3) fun z r4 => some (.ok ((43, 0) :: (c ++ (y ++ z))) r4)
      else some (.ok c r)
  | f + 1, .bin l, ts => if 6 ≤ l then PP nm names f .unary ts else andR (PP nm names f (.bin (l + 1)) ts) fun left r => PP nm names f (.tail l left) r
  | f + 1, .tail l left, ts =>
      if binO (ybg ts) = 0 ∨ yef (binO (ybg ts)) ≠ l then some (.ok left ts)
      else andR (PP nm names f (.bin (l + 1)) ts.tail) fun right r => if l = 3 then some (.ok ((binO (ybg ts), 0) :: (left ++ right)) r) else PP nm names f (.tail l ((binO (ybg ts), 0) :: (left ++ right))) r
  | f + 1, .unary, ts =>
      if ybg ts = [45] then andR (PP nm names f .unary ts.tail) fun x r => some (.ok ((18, 0) :: x) r)
      else if ybg ts = [33] then andR (PP nm names f .unary ts.tail) fun x r => some (.ok ((19, 0) :: x) r)
      else PP nm names f .prim ts
  | f + 1, .prim, ts => match ts with
      | [] => some (.bad 4 [])
      | t :: r =>
        if t.k = 2 then some (.ok [(1, (t.v : Int))] r)
        else if t.w = [40] then andR (PP nm names f .choice r) fun x r2 => wantW [41] r2 fun r3 => some (.ok x r3)
        else if t.w = [113] then some (nearR nm names r)
        else if yeu t.w ≠ 0 then some (.ok [(yeu t.w, 0)] r)
        else if aggO t.w ≠ 0 then wantW [40] r fun r2 => andR (PP nm names f .choice r2) fun x r3 => wantW [41] r3 fun r4 => some (.ok ((aggO t.w, 0) :: x) r4)
        else some (varR nm names 5 (t :: r))
variable {nm : Bs → Bool} {names : List Bs}
theorem andR_ok {e : List Tm} {r : List PW} {k : List Tm → List PW → Option Res} : andR (some (.ok e r)) k = k e r := rfl
theorem ybz {x : Option Res} {k : List Tm → List PW → Option Res} {res : Res} (h : andR x k = some res) : (∃ e r, x = some (.ok e r) ∧ k e r = some res) ∨ ∃ c r, x = some (.bad c r) ∧ res = .bad c r := by
  cases x with
  | none => cases h
  | some y => cases y with
    | ok e r => exact .inl ⟨e, r, rfl, h⟩
    | bad c r => exact .inr ⟨c, r, rfl, (Option.some.inj h).symm⟩
theorem yfk {w : Bs} {ts : List PW} {k : List PW → Option Res} {res : Res} (h : wantW w ts k = some res) : (∃ t r, ts = t :: r ∧ t.w = w ∧ k r = some res) ∨ (ybg ts ≠ w ∨ ts = []) ∧ res = .bad 4 ts := by
  cases ts with
  | nil => exact .inr ⟨.inr rfl, (Option.some.inj h).symm⟩
  | cons t r =>
    simp only [wantW] at h
    split at h
    · rename_i e; exact .inl ⟨t, r, rfl, e, h⟩
    · rename_i e; exact .inr ⟨.inl e, (Option.some.inj h).symm⟩
theorem andR_mono {x x' : Option Res} {k k' : List Tm → List PW → Option Res} {res : Res} (hx : ∀ y, x = some y → x' = some y) (hk : ∀ e r y, k e r = some y → k' e r = some y) (h : andR x k = some res) : andR x' k' = some res := by
  rcases ybz h with ⟨e, r, h1, h2⟩ | ⟨c, r, h1, h2⟩
  · rw [hx _ h1]; exact hk e r _ h2
  · rw [hx _ h1, h2]; rfl
theorem wantW_mono {w : Bs} {ts : List PW} {k k' : List PW → Option Res} {res : Res} (hk : ∀ r y, k r = some y → k' r = some y) (h : wantW w ts k = some res) : wantW w ts k' = some res := by
  cases ts with
  | nil => exact h
  | cons t r =>
    simp only [wantW] at h ⊢
    split
    · rename_i e; rw [if_pos e] at h; exact hk _ _ h
    · rename_i e; rw [if_neg e] at h; exact h
theorem PP_succ : ∀ (f : Nat) (nt : NT) (ts : List PW) (res : Res), PP nm names f nt ts = some res → PP nm names (f + 1) nt ts = some res
  | 0, nt, ts, res, h => by cases h
  | f + 1, nt, ts, res, h => by
    have ih := PP_succ f
    cases nt with
    | choice =>
      rw [PP] at h ⊢
      refine andR_mono (ih _ _) (fun c r y h => ?_) h
      split
      · rename_i e
        rw [if_pos e] at h
        exact andR_mono (ih _ _) (fun c r y h => wantW_mono (fun r y h => andR_mono (ih _ _) (fun _ _ _ h => h) h) h) h
      · rename_i e; rw [if_neg e] at h; exact h
    | bin l =>
      rw [PP] at h ⊢
      split
      · rename_i e; rw [if_pos e] at h; exact ih _ _ _ h
      · rename_i e; rw [if_neg e] at h; exact andR_mono (ih _ _) (fun c r y h => ih _ _ _ h) h
    | tail l left =>
      rw [PP] at h ⊢
      split
      · rename_i e; rw [if_pos e] at h; exact h
      · rename_i e
        rw [if_neg e] at h
        refine andR_mono (ih _ _) (fun c r y h => ?_) h
        split
        · rename_i e; rw [if_pos e] at h; exact h
        · rename_i e; rw [if_neg e] at h; exact ih _ _ _ h
    | unary =>
      rw [PP] at h ⊢
      split
      · rename_i e; rw [if_pos e] at h; exact andR_mono (ih _ _) (fun _ _ _ h => h) h
      · rename_i e
        rw [if_neg e] at h
        split
        · rename_i e; rw [if_pos e] at h; exact andR_mono (ih _ _) (fun _ _ _ h => h) h
        · rename_i e; rw [if_neg e] at h; exact ih _ _ _ h
    | prim =>
      cases ts with
      | nil => exact h
      | cons t r =>
        simp only [PP] at h ⊢
        split
        · rename_i e; rw [if_pos e] at h; exact h
        · rename_i e
          rw [if_neg e] at h
          split
          · rename_i e; rw [if_pos e] at h; exact andR_mono (ih _ _) (fun _ _ _ h => h) h
          · rename_i e
            rw [if_neg e] at h
            split
            · rename_i e; rw [if_pos e] at h; exact h
            · rename_i e
              rw [if_neg e] at h
              split
              · rename_i e; rw [if_pos e] at h; exact h
              · rename_i e
                rw [if_neg e] at h
                split
                · rename_i e; rw [if_pos e] at h; exact wantW_mono (fun r y h => andR_mono (ih _ _) (fun _ _ _ h => h) h) h
                · rename_i e; rw [if_neg e] at h; exact h
theorem PP_mono {f g : Nat} {nt : NT} {ts : List PW} {res : Res} (h : PP nm names f nt ts = some res) (hg : f ≤ g) : PP nm names g nt ts = some res := by
  obtain ⟨d, rfl⟩ := Nat.exists_eq_add_of_le hg
  clear hg
  induction d with
  | zero => exact h
  | succ d ih => exact PP_succ _ _ _ _ ih
def Pars (nm : Bs → Bool) (names : List Bs) (nt : NT) (ts : List PW) (res : Res) : Prop := ∃ f, PP nm names f nt ts = some res
theorem Pars.det {nt : NT} {ts : List PW} {a b : Res} (ha : Pars nm names nt ts a) (hb : Pars nm names nt ts b) : a = b := by
  obtain ⟨f, hf⟩ := ha
  obtain ⟨g, hg⟩ := hb
  have h1 := PP_mono hf (Nat.le_max_left f g)
  rw [PP_mono hg (Nat.le_max_right f g)] at h1
  exact (Option.some.inj h1).symm
def NT.had : NT → Nat
  | .tail _ left => left.length
  | _ => 0
def NT.isTail : NT → Bool
  | .tail _ _ => true
  | _ => false
def Sp (nt : NT) (ts : List PW) : Res → Prop
  | .ok e r => r <:+ ts ∧ e.length + r.length ≤ ts.length + nt.had ∧ (nt.isTail = false → r.length < ts.length)
  | .bad c r => r <:+ ts ∧ (c = 4 ∨ c = 5) ∧ (r = [] → c = 4)
theorem headW_ne {ts : List PW} {w : Bs} (h : ybg ts = w) (hw : w ≠ []) : ∃ t r, ts = t :: r ∧ t.w = w := by
  cases ts with
  | nil => exact absurd h.symm hw
  | cons t r => exact ⟨t, r, rfl, h⟩
theorem find_ne {first : Int} {l : List Bs} {ts : List PW} (h : findL first l (ybg ts) ≠ 0) : ∃ t r, ts = t :: r := by
  cases ts with
  | nil => exact absurd rfl h
  | cons t r => exact ⟨t, r, rfl⟩
theorem var_sp (op : Int) (ts : List PW) : Sp .prim ts (varR nm names op ts) := by
  cases ts with
  | nil => exact ⟨List.suffix_refl _, .inl rfl, fun _ => rfl⟩
  | cons t r =>
    simp only [varR]
    split
    · split
      · exact ⟨List.suffix_cons _ _, by simp [NT.had]; omega, fun _ => by simp⟩
      · exact ⟨List.suffix_refl _, .inr rfl, fun h => by cases h⟩
    · exact ⟨List.suffix_refl _, .inl rfl, fun _ => rfl⟩
theorem near_sp (t : PW) (ts : List PW) : Sp .prim (t :: ts) (nearR nm names ts) := by
  unfold nearR
  split
  · rename_i h
    obtain ⟨t1, r, rfl, _⟩ := headW_ne h (by simp)
    by_cases h2 : fieldO (ybg (t1 :: r).tail) = 0
    · rw [if_pos h2]
      simp only [List.tail_cons]
      have := var_sp (nm := nm) (names := names) 12 r
      cases hv : varR nm names 12 r with
      | ok e r2 =>
        rw [hv] at this
        obtain ⟨h1, h2, h3⟩ := this
        exact ⟨h1.trans ((List.suffix_cons _ _).trans (List.suffix_cons _ _)), by simp only [List.length_cons, NT.had] at *; omega, fun _ => by have := h3 rfl; simp only [List.length_cons]; omega⟩
      | bad c r2 =>
        rw [hv] at this
        obtain ⟨h1, h2, h3⟩ := this
        exact ⟨h1.trans ((List.suffix_cons _ _).trans (List.suffix_cons _ _)), h2, h3⟩
    · rw [if_neg h2]
      simp only [List.tail_cons] at h2 ⊢
      obtain ⟨t2, r2, rfl⟩ := find_ne h2
      exact ⟨(List.suffix_cons _ _).trans ((List.suffix_cons _ _).trans (List.suffix_cons _ _)), by simp [NT.had]; omega, fun _ => by simp only [List.length_cons, List.tail_cons]; omega⟩
  · exact ⟨List.suffix_cons _ _, by simp [NT.had]; omega, fun _ => by simp⟩
theorem Sp.bad_mono {nt nt' : NT} {ts us : List PW} {c : Int} {r : List PW} (h : Sp nt ts (.bad c r)) (hs : ts <:+ us) : Sp nt' us (.bad c r) := ⟨h.1.trans hs, h.2⟩
theorem want_sp {w : Bs} {ts us : List PW} {k : List PW → Option Res} {nt : NT} {res : Res} (h : wantW w ts k = some res) (hs : ts <:+ us) (hk : ∀ t r, ts = t :: r → k r = some res → Sp nt us res) : Sp nt us res := by
  rcases yfk h with ⟨t, r, rfl, _, h2⟩ | ⟨_, rfl⟩
  · exact hk t r rfl h2
  · exact ⟨hs, .inl rfl, fun _ => rfl⟩
theorem ydo : ∀ (f : Nat) (nt : NT) (ts : List PW) (res : Res), PP nm names f nt ts = some res → Sp nt ts res
  | 0, nt, ts, res, h => by cases h
  | f + 1, nt, ts, res, h => by
    have ih := ydo f
    cases nt with
    | choice =>
      rw [PP] at h
      rcases ybz h with ⟨c, r, h1, h⟩ | ⟨c, r, h1, rfl⟩
      · obtain ⟨s1, s2, s3⟩ := ih _ _ _ h1
        have s3 := s3 rfl
        simp only [NT.had] at s2
        split at h
        · rename_i hq
          obtain ⟨t, r, rfl, _⟩ := headW_ne hq (by simp)
          simp only [List.tail_cons, List.length_cons] at h s2 s3
          rcases ybz h with ⟨y, r2, h2, h⟩ | ⟨c, r2, h2, rfl⟩
          · obtain ⟨u1, u2, u3⟩ := ih _ _ _ h2
            have u3 := u3 rfl
            simp only [NT.had] at u2
            refine want_sp h (u1.trans ((List.suffix_cons _ _).trans s1)) fun t2 r3 he hq2 => ?_
            subst he
            clear h
            have h := hq2
            simp only [List.length_cons] at u2 u3
            have hs3 := (List.suffix_cons t2 r3).trans (u1.trans ((List.suffix_cons _ _).trans s1))
            rcases ybz h with ⟨z, r4, h3, h⟩ | ⟨c, r4, h3, rfl⟩
            · obtain ⟨v1, v2, v3⟩ := ih _ _ _ h3
              have v3 := v3 rfl
              simp only [NT.had] at v2
              obtain rfl := (Option.some.inj h).symm
              exact ⟨v1.trans hs3, by simp only [List.length_cons, List.length_append, NT.had]; omega, fun _ => by omega⟩
            · exact (ih _ _ _ h3).bad_mono hs3
          · exact (ih _ _ _ h2).bad_mono ((List.suffix_cons _ _).trans s1)
        · obtain rfl := (Option.some.inj h).symm
          exact ⟨s1, by simp only [NT.had]; omega, fun _ => s3⟩
      · exact (ih _ _ _ h1).bad_mono (List.suffix_refl _)
    | bin l =>
      rw [PP] at h
      split at h
      · have := ih _ _ _ h
        cases res <;> exact this
      · rcases ybz h with ⟨c, r, h1, h⟩ | ⟨c, r, h1, rfl⟩
        · obtain ⟨s1, s2, s3⟩ := ih _ _ _ h1
          have s3 := s3 rfl
          simp only [NT.had] at s2
          have := ih _ _ _ h
          cases res with
          | ok e r2 =>
            obtain ⟨u1, u2, u3⟩ := this
            have := u1.length_le
            simp only [NT.had] at u2
            exact ⟨u1.trans s1, by simp only [NT.had]; omega, fun _ => by omega⟩
          | bad c r2 => exact this.bad_mono s1
        · exact (ih _ _ _ h1).bad_mono (List.suffix_refl _)
    | tail l left =>
      rw [PP] at h
      split at h
      · obtain rfl := (Option.some.inj h).symm
        exact ⟨List.suffix_refl _, by simp only [NT.had]; omega, fun h => by cases h⟩
      · rename_i hq
        obtain ⟨t, r, rfl⟩ := find_ne (fun e => hq (.inl e))
        simp only [List.tail_cons] at h
        rcases ybz h with ⟨c, r1, h1, h⟩ | ⟨c, r1, h1, rfl⟩
        · obtain ⟨s1, s2, s3⟩ := ih _ _ _ h1
          have s3 := s3 rfl
          simp only [NT.had] at s2
          split at h
          · obtain rfl := (Option.some.inj h).symm
            exact ⟨s1.trans (List.suffix_cons _ _), by simp only [NT.had, List.length_cons, List.length_append]; omega, fun h => by cases h⟩
          · have := ih _ _ _ h
            cases res with
            | ok e r2 =>
              obtain ⟨u1, u2, u3⟩ := this
              simp only [NT.had, List.length_cons, List.length_append] at u2
              exact ⟨u1.trans (s1.trans (List.suffix_cons _ _)), by simp only [NT.had, List.length_cons]; omega, fun h => by cases h⟩
            | bad c r2 => exact this.bad_mono (s1.trans (List.suffix_cons _ _))
        · exact (ih _ _ _ h1).bad_mono (List.suffix_cons _ _)
    | unary =>
      rw [PP] at h
      split at h
      · rename_i hq
        obtain ⟨t, r, rfl, _⟩ := headW_ne hq (by simp)
        simp only [List.tail_cons] at h
        rcases ybz h with ⟨c, r1, h1, h⟩ | ⟨c, r1, h1, rfl⟩
        · obtain ⟨s1, s2, s3⟩ := ih _ _ _ h1
          have s3 := s3 rfl
          simp only [NT.had] at s2
          obtain rfl := (Option.some.inj h).symm
          exact ⟨s1.trans (List.suffix_cons _ _), by simp only [NT.had, List.length_cons]; omega, fun _ => by simp only [List.length_cons]; omega⟩
        · exact (ih _ _ _ h1).bad_mono (List.suffix_cons _ _)
      · split at h
        · rename_i hq
          obtain ⟨t, r, rfl, _⟩ := headW_ne hq (by simp)
          simp only [List.tail_cons] at h
          rcases ybz h with ⟨c, r1, h1, h⟩ | ⟨c, r1, h1, rfl⟩
          · obtain ⟨s1, s2, s3⟩ := ih _ _ _ h1
            have s3 := s3 rfl
            simp only [NT.had] at s2
            obtain rfl := (Option.some.inj h).symm
            exact ⟨s1.trans (List.suffix_cons _ _), by simp only [NT.had, List.length_cons]; omega, fun _ => by simp only [List.length_cons]; omega⟩
          · exact (ih _ _ _ h1).bad_mono (List.suffix_cons _ _)
        · have := ih _ _ _ h
          cases res <;> exact this
    | prim =>
      cases ts with
      | nil =>
        obtain rfl := (Option.some.inj h).symm
        exact ⟨List.suffix_refl _, .inl rfl, fun _ => rfl⟩
      | cons t r =>
        simp only [PP] at h
        split at h
        · obtain rfl := (Option.some.inj h).symm
          exact ⟨List.suffix_cons _ _, by simp [NT.had]; omega, fun _ => by simp⟩
        · split at h
          · rcases ybz h with ⟨c, r1, h1, h⟩ | ⟨c, r1, h1, rfl⟩
            · obtain ⟨s1, s2, s3⟩ := ih _ _ _ h1
              have s3 := s3 rfl
              simp only [NT.had] at s2
              refine want_sp h (s1.trans (List.suffix_cons _ _)) fun t2 r3 he hq2 => ?_
              subst he
              clear h
              have h := hq2
              obtain rfl := (Option.some.inj h).symm
              simp only [List.length_cons] at s2 s3
              exact ⟨(List.suffix_cons _ _).trans (s1.trans (List.suffix_cons _ _)), by simp only [NT.had, List.length_cons]; omega, fun _ => by simp only [List.length_cons]; omega⟩
            · exact (ih _ _ _ h1).bad_mono (List.suffix_cons _ _)
          · split at h
            · obtain rfl := (Option.some.inj h).symm
              exact near_sp t r
            · split at h
              · obtain rfl := (Option.some.inj h).symm
                exact ⟨List.suffix_cons _ _, by simp [NT.had]; omega, fun _ => by simp⟩
              · split at h
                · refine want_sp h (List.suffix_cons _ _) fun t2 r2 he hq2 => ?_
                  subst he
                  clear h
                  have h := hq2
                  have hs := (List.suffix_cons t2 r2).trans (List.suffix_cons t _)
                  rcases ybz h with ⟨c, r3, h1, h⟩ | ⟨c, r3, h1, rfl⟩
                  · obtain ⟨s1, s2, s3⟩ := ih _ _ _ h1
                    have s3 := s3 rfl
                    simp only [NT.had] at s2
                    refine want_sp h (s1.trans hs) fun t4 r4 he hq2 => ?_
                    subst he
                    clear h
                    have h := hq2
                    obtain rfl := (Option.some.inj h).symm
                    simp only [List.length_cons] at s2 s3
                    exact ⟨(List.suffix_cons _ _).trans (s1.trans hs), by simp only [NT.had, List.length_cons]; omega, fun _ => by simp only [List.length_cons]; omega⟩
                  · exact (ih _ _ _ h1).bad_mono hs
                · obtain rfl := (Option.some.inj h).symm
                  exact var_sp 5 (t :: r)
def rankN : NT → Nat
  | .choice => 9
  | .bin l => 9 - l
  | .tail _ _ => 1
  | .unary => 2
  | .prim => 1
theorem yfg {x : Option Res} {k : List Tm → List PW → Option Res} (hx : ∃ y, x = some y) (hk : ∀ e r, x = some (.ok e r) → ∃ y, k e r = some y) : ∃ y, andR x k = some y := by
  obtain ⟨y, rfl⟩ := hx
  cases y with
  | ok e r => exact hk e r rfl
  | bad c r => exact ⟨_, rfl⟩
theorem wantW_total {w : Bs} {ts : List PW} {k : List PW → Option Res} (hk : ∀ t r, ts = t :: r → ∃ y, k r = some y) : ∃ y, wantW w ts k = some y := by
  cases ts with
  | nil => exact ⟨_, rfl⟩
  | cons t r =>
    simp only [wantW]
    split
    · exact hk t r rfl
    · exact ⟨_, rfl⟩
theorem PP_total : ∀ (f : Nat) (nt : NT) (ts : List PW), (∀ l, nt = .bin l → l ≤ 6) → (∀ l left, nt = .tail l left → l ≤ 5) → 10 * ts.length + rankN nt ≤ f → ∃ y, PP nm names f nt ts = some y
  | 0, nt, ts, hl, ht, h => by
    cases nt with
    | bin l => have := hl l rfl; simp only [rankN] at h; omega
    | _ => simp only [rankN] at h; omega
  | f + 1, nt, ts, hl, ht, h => by
    have ih := fun nt ts a b c => PP_total f nt ts a b c
    have nb : ∀ {nt : NT}, (∀ l, nt ≠ .bin l) → ∀ l, nt = .bin l → l ≤ 6 := fun h l e => absurd e (h l)
    have ntl : ∀ {nt : NT}, (∀ l x, nt ≠ .tail l x) → ∀ l x, nt = .tail l x → l ≤ 5 := fun h l x e => absurd e (h l x)
    cases nt with
    | choice =>
      rw [PP]
      simp only [rankN] at h
      refine yfg (ih _ _ (fun l e => by cases e; omega) (ntl (by simp)) (by simp only [rankN]; omega)) fun c r h1 => ?_
      have s := (ydo _ _ _ _ h1).2.2 rfl
      split
      · rename_i hq
        obtain ⟨t, r, rfl, _⟩ := headW_ne hq (by simp)
        simp only [List.length_cons, List.tail_cons] at s ⊢
        refine yfg (ih _ _ (nb (by simp)) (ntl (by simp)) (by simp only [rankN]; omega)) fun y r2 h2 => wantW_total fun t3 r3 he => ?_
        have s2 := (ydo _ _ _ _ h2).2.2 rfl
        subst he
        simp only [List.length_cons] at s2
        exact yfg (ih _ _ (nb (by simp)) (ntl (by simp)) (by simp only [rankN]; omega)) fun z r4 h3 => ⟨_, rfl⟩
      · exact ⟨_, rfl⟩
    | bin l =>
      have hl6 := hl l rfl
      rw [PP]
      simp only [rankN] at h
      split
      · exact ih _ _ (nb (by simp)) (ntl (by simp)) (by simp only [rankN]; omega)
      · refine yfg (ih _ _ (fun l' e => by cases e; omega) (ntl (by simp)) (by simp only [rankN]; omega)) fun c r h1 => ?_
        have s := (ydo _ _ _ _ h1).2.2 rfl
        exact ih _ _ (nb (by simp)) (fun l' x e => by cases e; omega) (by simp only [rankN]; omega)
    | tail l left =>
      have hl5 := ht l left rfl
      rw [PP]
      simp only [rankN] at h
      split
      · exact ⟨_, rfl⟩
      · rename_i hq
        obtain ⟨t, r, rfl⟩ := find_ne (fun e => hq (.inl e))
        simp only [List.tail_cons, List.length_cons] at h ⊢
        refine yfg (ih _ _ (fun l' e => by cases e; omega) (ntl (by simp)) (by simp only [rankN]; omega)) fun c r1 h1 => ?_
        have s := (ydo _ _ _ _ h1).2.2 rfl
        split
        · exact ⟨_, rfl⟩
        · exact ih _ _ (nb (by simp)) (fun l' x e => by cases e; omega) (by simp only [rankN]; omega)
    | unary =>
      rw [PP]
      simp only [rankN] at h
      split
      · rename_i hq
        obtain ⟨t, r, rfl, _⟩ := headW_ne hq (by simp)
        simp only [List.tail_cons, List.length_cons] at h ⊢
        exact yfg (ih _ _ (nb (by simp)) (ntl (by simp)) (by simp only [rankN]; omega)) fun z r4 h3 => ⟨_, rfl⟩
      · split
        · rename_i hq
          obtain ⟨t, r, rfl, _⟩ := headW_ne hq (by simp)
          simp only [List.tail_cons, List.length_cons] at h ⊢
          exact yfg (ih _ _ (nb (by simp)) (ntl (by simp)) (by simp only [rankN]; omega)) fun z r4 h3 => ⟨_, rfl⟩
        · exact ih _ _ (nb (by simp)) (ntl (by simp)) (by simp only [rankN]; omega)
    | prim =>
      cases ts with
      | nil => exact ⟨_, rfl⟩
      | cons t r =>
        simp only [PP]
        simp only [rankN, List.length_cons] at h
        split
        · exact ⟨_, rfl⟩
        · split
          · exact yfg (ih _ _ (nb (by simp)) (ntl (by simp)) (by simp only [rankN]; omega)) fun z r4 h3 => wantW_total fun t3 r3 he => ⟨_, rfl⟩
          · split
            · exact ⟨_, rfl⟩
            · split
              · exact ⟨_, rfl⟩
              · split
                · refine wantW_total fun t2 r2 he => ?_
                  subst he
                  simp only [List.length_cons] at h
                  exact yfg (ih _ _ (nb (by simp)) (ntl (by simp)) (by simp only [rankN]; omega)) fun z r4 h3 => wantW_total fun t3 r3 he => ⟨_, rfl⟩
                · exact ⟨_, rfl⟩
theorem pars_total (ts : List PW) : ∃ res, Pars nm names .choice ts res := by
  obtain ⟨y, hy⟩ := PP_total (nm := nm) (names := names) (10 * ts.length + 9) .choice ts (fun l e => by cases e) (fun l x e => by cases e) (Nat.le_refl _)
  exact ⟨y, _, hy⟩
end Go.Proofs.YtcpgpiabeimefaaGreatDoor
set_option linter.unusedVariables false
namespace Go.Proofs.YtcpgpiabeimefaaGreatDoor

abbrev dec (v : Nat) : Bs := Lib.decDigits v
theorem dec_small {v : Nat} (h : v < 10) : dec v = [UInt8.ofNat (48 + v)] := by unfold dec; rw [Lib.decDigits, dif_pos h]
theorem dec_big {v : Nat} (h : ¬ v < 10) : dec v = dec (v / 10) ++ [UInt8.ofNat (48 + v % 10)] := by unfold dec; rw [Lib.decDigits, dif_neg h]
theorem digit_nat {d : Nat} (h : d < 10) : (UInt8.ofNat (48 + d)).toNat = 48 + d := by
  rw [UInt8.toNat_ofNat']; omega
theorem dec_digits (v : Nat) : ∀ c ∈ dec v, 48 ≤ c.toNat ∧ c.toNat ≤ 57 := by
  induction v using Nat.strongRecOn with
  | ind v ih =>
    intro c hc
    by_cases h : v < 10
    · rw [dec_small h] at hc
      simp only [List.mem_singleton] at hc
      subst hc
      rw [digit_nat h]; omega
    · rw [dec_big h] at hc
      rcases List.mem_append.1 hc with hc | hc
      · exact ih (v / 10) (by omega) c hc
      · simp only [List.mem_singleton] at hc
        subst hc
        rw [digit_nat (by omega)]; omega
theorem dec_pos (v : Nat) : 1 ≤ (dec v).length := by
  by_cases h : v < 10
  · rw [dec_small h]; simp
  · rw [dec_big h]; simp
theorem dec_len : ∀ (k v : Nat), 1 ≤ k → v < 10 ^ k → (dec v).length ≤ k
  | 0, v, h, _ => by omega
  | k + 1, v, _, hv => by
    by_cases h : v < 10
    · rw [dec_small h]; simp
    · rw [dec_big h]
      have hk : 1 ≤ k := by
        rcases Nat.eq_zero_or_pos k with h0 | h0
        · subst h0; simp at hv; omega
        · exact h0
      have := dec_len k (v / 10) hk (by rw [Nat.pow_succ] at hv; omega)
      simp; omega
theorem dec_head (v : Nat) (h0 : 1 ≤ v) : (dec v).head? ≠ some 48 := by
  induction v using Nat.strongRecOn with
  | ind v ih =>
    by_cases h : v < 10
    · rw [dec_small h]
      simp only [List.head?_cons, ne_eq, Option.some.injEq]
      intro e
      have := congrArg UInt8.toNat e
      rw [digit_nat h] at this
      simp at this; omega
    · rw [dec_big h]
      have hp := dec_pos (v / 10)
      have := ih (v / 10) (by omega) (by omega)
      cases hd : dec (v / 10) with
      | nil => rw [hd] at hp; simp at hp
      | cons c r => rw [hd] at this; simpa using this
end Go.Proofs.YtcpgpiabeimefaaGreatDoor
set_option linter.unusedVariables false
namespace Go.Proofs.YtcpgpiabeimefaaGreatDoor
variable {nm : Bs → Bool} {names : List Bs}
theorem PP_to {f g : Nat} {nt : NT} {ts : List PW} {res : Res} (h : PP nm names f nt ts = some res) (hg : f ≤ g := by omega) : PP nm names g nt ts = some res := PP_mono h hg
theorem p_choice1 {ts r : List PW} {c : List Tm} (h : Pars nm names (.bin 1) ts (.ok c r)) (hr : ybg r ≠ [63]) : Pars nm names .choice ts (.ok c r) := by
  obtain ⟨f, hf⟩ := h
  exact ⟨f + 1, by rw [PP, hf, andR_ok, if_neg hr]⟩
theorem p_choice2 {ts r r3 r4 : List PW} {t t2 : PW} {c y z : List Tm} (h1 : Pars nm names (.bin 1) ts (.ok c (t :: r))) (ht : t.w = [63]) (h2 : Pars nm names .choice r (.ok y (t2 :: r3))) (ht2 : t2.w = [58]) (h3 : Pars nm names .choice r3 (.ok z r4)) : Pars nm names .choice ts (.ok ((43, 0) :: (c ++ (y ++ z))) r4) := by
  obtain ⟨f1, h1⟩ := h1
  obtain ⟨f2, h2⟩ := h2
  obtain ⟨f3, h3⟩ := h3
  refine ⟨f1 + f2 + f3 + 1, ?_⟩
  rw [PP, PP_to (g := f1 + f2 + f3) h1, andR_ok, if_pos (show ybg (t :: r) = [63] from ht), List.tail_cons, PP_to (g := f1 + f2 + f3) h2, andR_ok, wantW, if_pos ht2, PP_to (g := f1 + f2 + f3) h3, andR_ok]
theorem p_bin {l : Nat} {ts r : List PW} {left : List Tm} {res : Res} (hl : l < 6) (h1 : Pars nm names (.bin (l + 1)) ts (.ok left r)) (h2 : Pars nm names (.tail l left) r res) : Pars nm names (.bin l) ts res := by
  obtain ⟨f1, h1⟩ := h1
  obtain ⟨f2, h2⟩ := h2
  refine ⟨f1 + f2 + 1, ?_⟩
  rw [PP, if_neg (by omega), PP_to (g := f1 + f2) h1, andR_ok, PP_to (g := f1 + f2) h2]
theorem p_bin6 {ts : List PW} {res : Res} (h1 : Pars nm names .unary ts res) : Pars nm names (.bin 6) ts res := by
  obtain ⟨f1, h1⟩ := h1
  exact ⟨f1 + 1, by rw [PP, if_pos (by omega), h1]⟩
theorem p_tail0 {l : Nat} {ts : List PW} {left : List Tm} (h : binO (ybg ts) = 0 ∨ yef (binO (ybg ts)) ≠ l) : Pars nm names (.tail l left) ts (.ok left ts) := ⟨1, by rw [PP, if_pos h]⟩
theorem p_tail {l : Nat} {r r2 : List PW} {t : PW} {left right : List Tm} {res : Res} (h0 : binO t.w ≠ 0) (hl : yef (binO t.w) = l) (h1 : Pars nm names (.bin (l + 1)) r (.ok right r2)) (h3 : l = 3 → res = .ok ((binO t.w, 0) :: (left ++ right)) r2) (h2 : l ≠ 3 → Pars nm names (.tail l ((binO t.w, 0) :: (left ++ right))) r2 res) : Pars nm names (.tail l left) (t :: r) res := by
  obtain ⟨f1, h1⟩ := h1
  by_cases e : l = 3
  · refine ⟨f1 + 1, ?_⟩
    rw [PP, if_neg (by simp only [ybg]; rintro (h | h); exact h0 h; exact h hl), List.tail_cons, h1, andR_ok, if_pos e, h3 e]; rfl
  · obtain ⟨f2, h2⟩ := h2 e
    refine ⟨f1 + f2 + 1, ?_⟩
    rw [PP, if_neg (by simp only [ybg]; rintro (h | h); exact h0 h; exact h hl), List.tail_cons, PP_to (g := f1 + f2) h1, andR_ok, if_neg e]
    exact PP_to h2
theorem p_neg {r r2 : List PW} {t : PW} {x : List Tm} (ht : t.w = [45]) (h : Pars nm names .unary r (.ok x r2)) : Pars nm names .unary (t :: r) (.ok ((18, 0) :: x) r2) := by
  obtain ⟨f, h⟩ := h
  exact ⟨f + 1, by rw [PP, if_pos (show ybg (t :: r) = [45] from ht), List.tail_cons, h, andR_ok]⟩
theorem p_not {r r2 : List PW} {t : PW} {x : List Tm} (ht : t.w = [33]) (h : Pars nm names .unary r (.ok x r2)) : Pars nm names .unary (t :: r) (.ok ((19, 0) :: x) r2) := by
  obtain ⟨f, h⟩ := h
  exact ⟨f + 1, by rw [PP, if_neg (show ybg (t :: r) ≠ [45] by simp [ybg, ht]), if_pos (show ybg (t :: r) = [33] from ht), List.tail_cons, h, andR_ok]⟩
theorem p_prim {ts : List PW} {res : Res} (h1 : ybg ts ≠ [45]) (h2 : ybg ts ≠ [33]) (h : Pars nm names .prim ts res) : Pars nm names .unary ts res := by
  obtain ⟨f, h⟩ := h
  exact ⟨f + 1, by rw [PP, if_neg h1, if_neg h2, h]⟩
theorem p_num {t : PW} {r : List PW} (h : t.k = 2) : Pars nm names .prim (t :: r) (.ok [(1, (t.v : Int))] r) := ⟨1, by simp only [PP, if_pos h]⟩
theorem p_paren {t t2 : PW} {r r3 : List PW} {x : List Tm} (hk : t.k ≠ 2) (ht : t.w = [40]) (h : Pars nm names .choice r (.ok x (t2 :: r3))) (h2 : t2.w = [41]) : Pars nm names .prim (t :: r) (.ok x r3) := by
  obtain ⟨f, h⟩ := h
  exact ⟨f + 1, by simp only [PP, if_neg hk, if_pos ht, h, andR_ok, wantW, if_pos h2]⟩
theorem p_q {t : PW} {r : List PW} (hk : t.k ≠ 2) (ht : t.w = [113]) : Pars nm names .prim (t :: r) (nearR nm names r) := ⟨1, by simp only [PP, if_neg hk, ht, if_pos]; rw [if_neg (by simp)]⟩
theorem p_const {t : PW} {r : List PW} (hk : t.k ≠ 2) (h1 : t.w ≠ [40]) (h2 : t.w ≠ [113]) (h3 : yeu t.w ≠ 0) : Pars nm names .prim (t :: r) (.ok [(yeu t.w, 0)] r) := ⟨1, by simp only [PP, if_neg hk, if_neg h1, if_neg h2, if_pos h3]⟩
theorem p_agg {t t2 t4 : PW} {r2 r4 : List PW} {x : List Tm} (hk : t.k ≠ 2) (h1 : t.w ≠ [40]) (h2 : t.w ≠ [113]) (h3 : yeu t.w = 0) (h4 : aggO t.w ≠ 0) (h5 : t2.w = [40]) (h : Pars nm names .choice r2 (.ok x (t4 :: r4))) (h6 : t4.w = [41]) : Pars nm names .prim (t :: t2 :: r2) (.ok ((aggO t.w, 0) :: x) r4) := by
  obtain ⟨f, h⟩ := h
  exact ⟨f + 1, by simp only [PP, if_neg hk, if_neg h1, if_neg h2, if_neg (show ¬ yeu t.w ≠ 0 from fun e => e h3), if_pos h4, wantW, if_pos h5, h, andR_ok, if_pos h6]⟩
theorem p_var {t : PW} {r : List PW} {x : Nat} (hk : t.k ≠ 2) (h1 : t.w ≠ [40]) (h2 : t.w ≠ [113]) (h3 : yeu t.w = 0) (h4 : aggO t.w = 0) (hn : nm t.w = true) (hx : idxW names t.w = some x) : Pars nm names .prim (t :: r) (.ok [(5, (x : Int))] r) :=
  ⟨1, by simp only [PP, if_neg hk, if_neg h1, if_neg h2, if_neg (show ¬ yeu t.w ≠ 0 from fun e => e h3), if_neg (show ¬ aggO t.w ≠ 0 from fun e => e h4), varR, if_pos hn, hx]⟩
def pwS (w : Bs) : PW := ⟨w, 3, 0⟩
def pwN (w : Bs) : PW := ⟨w, 1, 0⟩
def pwV (n : Nat) : PW := ⟨dec n, 2, n⟩
inductive Wr (names : List Bs) : Nat → Ex → Bs → List PW → Prop
  | down {l : Nat} {E : Ex} {x : Bs} {ws : List PW} (hl : l < 7) (h : Wr names (l + 1) E x ws) : Wr names l E x ws
  | paren {E : Ex} {x : Bs} {ws : List PW} (h : Wr names 0 E x ws) : Wr names 7 E (40 :: (x ++ [41])) (pwS [40] :: (ws ++ [pwS [41]]))
  | choice {a b c : Ex} {xa xb xc : Bs} {wa wb wc : List PW} (ha : Wr names 1 a xa wa) (hb : Wr names 0 b xb wb) (hc : Wr names 0 c xc wc) : Wr names 0 (.tr (43, 0) a b c) (xa ++ (32 :: 63 :: 32 :: (xb ++ (32 :: 58 :: 32 :: xc)))) (wa ++ (pwS [63] :: (wb ++ (pwS [58] :: wc))))
  | bin {op : Int} {l : Nat} {w : Bs} {a b : Ex} {xa xb : Bs} {wa wb : List PW} (h0 : binO w = op) (hw : w ∈ binL) (hl : yef op = l) (h3 : l ≠ 3) (ha : Wr names l a xa wa) (hb : Wr names (l + 1) b xb wb) : Wr names l (.bi (op, 0) a b) (xa ++ (32 :: (w ++ (32 :: xb)))) (wa ++ (pwS w :: wb))
  | cmp {op : Int} {w : Bs} {a b : Ex} {xa xb : Bs} {wa wb : List PW} (h0 : binO w = op) (hw : w ∈ binL) (hl : yef op = 3) (ha : Wr names 4 a xa wa) (hb : Wr names 4 b xb wb) : Wr names 3 (.bi (op, 0) a b) (xa ++ (32 :: (w ++ (32 :: xb)))) (wa ++ (pwS w :: wb))
  | neg {a : Ex} {xa : Bs} {wa : List PW} (ha : Wr names 6 a xa wa) : Wr names 6 (.un (18, 0) a) (45 :: xa) (pwS [45] :: wa)
  | not {a : Ex} {xa : Bs} {wa : List PW} (ha : Wr names 6 a xa wa) : Wr names 6 (.un (19, 0) a) (33 :: xa) (pwS [33] :: wa)
  | agg {op : Int} {w : Bs} {a : Ex} {xa : Bs} {wa : List PW} (h0 : aggO w = op) (hw : w ∈ aggL) (ha : Wr names 0 a xa wa) : Wr names 7 (.un (op, 0) a) (w ++ (40 :: (xa ++ [41]))) (pwN w :: pwS [40] :: (wa ++ [pwS [41]]))
  | num {n : Nat} (hn : n ≤ 1073741824) : Wr names 7 (.lf (1, n)) (dec n) [pwV n]
  | own {i : Nat} {w : Bs} (h : names[i]? = some w) : Wr names 7 (.lf (5, i)) w [pwN w]
  | near {i : Nat} {w : Bs} (h : names[i]? = some w) : Wr names 7 (.lf (12, i)) (113 :: 46 :: w) [pwN [113], pwS [46], pwN w]
  | here : Wr names 7 (.lf (11, 0)) [113] [pwN [113]]
  | const {op : Int} {w : Bs} (h0 : yeu w = op) (hw : w ∈ constL) (hne : w ≠ []) : Wr names 7 (.lf (op, 0)) w [pwN w]
  | field {op : Int} {w : Bs} (h0 : fieldO w = op) (hw : w ∈ fieldL) : Wr names 7 (.lf (op, 0)) (113 :: 46 :: w) [pwN [113], pwS [46], pwN w]
structure NmOk (nm : Bs → Bool) (names : List Bs) : Prop where
  good : ∀ w ∈ names, nm w = true
  nodup : names.Nodup
  res : ∀ w, nm w = true → yeu w = 0 ∧ aggO w = 0 ∧ fieldO w = 0 ∧ w ≠ [113] ∧ w ≠ [40] ∧ w ≠ [45] ∧ w ≠ [33]
theorem idxW_get : ∀ {l : List Bs} {i : Nat} {w : Bs}, l.Nodup → l[i]? = some w → idxW l w = some i
  | [], i, w, _, h => by simp at h
  | x :: l, 0, w, _, h => by simp at h; simp [idxW, h]
  | x :: l, i + 1, w, hn, h => by
    simp only [List.getElem?_cons_succ] at h
    have hne : x ≠ w := fun e => (List.nodup_cons.1 hn).1 (e ▸ List.mem_of_getElem? h)
    rw [idxW, if_neg hne, idxW_get (List.nodup_cons.1 hn).2 h]
    rfl
theorem idxW_of : ∀ {l : List Bs} {i : Nat} {w : Bs}, idxW l w = some i → l[i]? = some w
  | [], i, w, h => by cases h
  | x :: l, i, w, h => by
    rw [idxW] at h
    split at h
    · rename_i e; cases h; simp [e]
    · cases hq : idxW l w with
      | none => rw [hq] at h; cases h
      | some j => rw [hq] at h; cases h; simpa using idxW_of hq
theorem agg_words : ∀ w ∈ aggL, aggO w ≠ 0 ∧ yeu w = 0 ∧ w ≠ [40] ∧ w ≠ [113] ∧ w ≠ [45] ∧ w ≠ [33] := by decide
theorem const_words : ∀ w ∈ constL, w ≠ [] → yeu w ≠ 0 ∧ w ≠ [40] ∧ w ≠ [113] ∧ w ≠ [45] ∧ w ≠ [33] := by decide
theorem field_words : ∀ w ∈ fieldL, fieldO w ≠ 0 := by decide
theorem bin_words : ∀ w ∈ binL, binO w ≠ 0 ∧ 1 ≤ yef (binO w) ∧ yef (binO w) ≤ 5 := by decide
theorem idxW_mem : ∀ {l : List Bs} {w : Bs} {i : Nat}, idxW l w = some i → w ∈ l := fun h => List.mem_of_getElem? (idxW_of h)
theorem find_mem {first : Int} {l : List Bs} {w : Bs} (h : findL first l w ≠ 0) : w ∈ l ∧ w ≠ [] := by
  unfold findL at h
  split at h
  · exact absurd rfl h
  · rename_i hne
    cases hi : idxW l w with
    | none => rw [hi] at h; exact absurd rfl h
    | some i => exact ⟨idxW_mem hi, hne⟩
def Fol (l : Nat) (r : List PW) : Prop := (l = 0 → ybg r ≠ [63]) ∧ ybg r ≠ [46] ∧ (binO (ybg r) = 0 ∨ yef (binO (ybg r)) < l)
def FolW (l : Nat) (r : List PW) : Prop := ybg r ≠ [46] ∧ (binO (ybg r) = 0 ∨ yef (binO (ybg r)) < l ∨ (yef (binO (ybg r)) = l ∧ l ≠ 3))
theorem FolW.up {l : Nat} {r : List PW} (h : FolW l r) : Fol (l + 1) r := ⟨by omega, h.1, h.2.imp id (by omega)⟩
theorem Fol.weak {l : Nat} {r : List PW} (h : Fol l r) : FolW l r := ⟨h.2.1, h.2.2.imp id .inl⟩
theorem Fol.up {l : Nat} {r : List PW} (h : Fol l r) : Fol (l + 1) r := h.weak.up
theorem fol_sign {l : Nat} {w : Bs} {r : List PW} (hw : binO w = 0) (hd : w ≠ [46]) (h : w ≠ [63] ∨ l ≠ 0) : Fol l (pwS w :: r) := ⟨fun e => h.elim id (fun h => absurd e h), hd, .inl hw⟩
theorem fol_op {l : Nat} {w : Bs} {r : List PW} (hw : w ∈ binL) (h : yef (binO w) < l) : Fol l (pwS w :: r) := ⟨fun e => by omega, fun e => by have e : w = [46] := e; rw [e] at hw; revert hw; decide, .inr h⟩
def Ans (nm : Bs → Bool) (names : List Bs) (l : Nat) (e : List Tm) (ws : List PW) : Prop :=
  (l = 0 → ∀ r, Fol 0 r → Pars nm names .choice (ws ++ r) (.ok e r)) ∧
  (1 ≤ l → l ≤ 5 → ∀ r res, FolW l r → Pars nm names (.tail l e) r res → Pars nm names (.bin l) (ws ++ r) res) ∧
  (l = 6 → ∀ r, ybg r ≠ [46] → Pars nm names .unary (ws ++ r) (.ok e r)) ∧
  (l = 7 → (∀ r, ybg r ≠ [46] → Pars nm names .prim (ws ++ r) (.ok e r)) ∧ ybg ws ≠ [45] ∧ ybg ws ≠ [33] ∧ ws ≠ [])
theorem Ans.full {l : Nat} {e : List Tm} {ws : List PW} (h : Ans nm names l e ws) (h1 : 1 ≤ l) (h5 : l ≤ 5) {r : List PW} (hr : Fol l r) : Pars nm names (.bin l) (ws ++ r) (.ok e r) :=
  h.2.1 h1 h5 r _ hr.weak (p_tail0 (hr.2.2.imp id (by omega)))
theorem Ans.bin {l : Nat} {e : List Tm} {ws : List PW} (h : Ans nm names l e ws) (h1 : 1 ≤ l) (h5 : l ≤ 6) {r : List PW} (hr : Fol l r) : Pars nm names (.bin l) (ws ++ r) (.ok e r) := by
  by_cases e : l = 6
  · subst e; exact p_bin6 (h.2.2.1 rfl r hr.2.1)
  · exact h.full h1 (by omega) hr
theorem headW_app {a b : List PW} (h : a ≠ []) : ybg (a ++ b) = ybg a := by
  cases a with
  | nil => exact absurd rfl h
  | cons x a => rfl
theorem ans_prim {e : List Tm} {ws : List PW} (h : ∀ r, ybg r ≠ [46] → Pars nm names .prim (ws ++ r) (.ok e r)) (h1 : ybg ws ≠ [45]) (h2 : ybg ws ≠ [33]) (hne : ws ≠ []) : Ans nm names 7 e ws := ⟨by omega, by omega, by omega, fun _ => ⟨h, h1, h2, hne⟩⟩
theorem wr_ans (hN : NmOk nm names) {l : Nat} {E : Ex} {x : Bs} {ws : List PW} (h : Wr names l E x ws) : Ans nm names l E.fl ws := by
  induction h with
  | @down l E x ws hl h ih =>
    refine ⟨fun e r hr => ?_, fun h1 h5 r res hr ht => p_bin (by omega) (ih.bin (by omega) (by omega) hr.up) ht, fun e r hr => ?_, fun e => by omega⟩
    · subst e
      exact p_choice1 (ih.bin (by omega) (by omega) hr.up) (hr.1 rfl)
    · subst e
      obtain ⟨h1, h2, h3, h4⟩ := ih.2.2.2 rfl
      exact p_prim (by rw [headW_app h4]; exact h2) (by rw [headW_app h4]; exact h3) (h1 r hr)
  | @paren E x ws h ih =>
    refine ans_prim (fun r hr => ?_) (by simp [ybg, pwS]) (by simp [ybg, pwS]) (by simp)
    rw [List.cons_append, List.append_assoc]
    exact p_paren (by simp [pwS]) rfl (ih.1 rfl _ (fol_sign (by decide) (by decide) (.inl (by decide)))) rfl
  | @choice a b c xa xb xc wa wb wc ha hb hc iha ihb ihc =>
    refine ⟨fun _ r hr => ?_, by omega, by omega, by omega⟩
    have h3 := ihc.1 rfl r hr
    have h2 := ihb.1 rfl (pwS [58] :: (wc ++ r)) (fol_sign (by decide) (by decide) (.inl (by decide)))
    have h1 := iha.full (by omega) (by omega) (r := pwS [63] :: (wb ++ (pwS [58] :: (wc ++ r)))) (fol_sign (by decide) (by decide) (.inr (by omega)))
    have := p_choice2 h1 rfl h2 rfl h3
    simpa [Ex.fl] using this
  | @bin op l w a b xa xb wa wb h0 hw hl h3 ha hb iha ihb =>
    have hb5 := bin_words w hw
    rw [h0, hl] at hb5
    refine ⟨by omega, fun _ _ r res hr ht => ?_, by omega, by omega⟩
    rw [List.append_assoc]
    refine iha.2.1 hb5.2.1 hb5.2.2 _ _ ⟨fun e => by have e : w = [46] := e; rw [e] at hw; revert hw; decide, .inr (.inr ⟨by show yef (binO w) = l; rw [h0, hl], h3⟩)⟩ ?_
    refine p_tail (t := pwS w) (by show binO w ≠ 0; rw [h0]; exact hb5.1) (by show yef (binO w) = l; rw [h0, hl]) (ihb.bin (by omega) (by omega) hr.up) (fun e => absurd e h3) fun _ => ?_
    show Pars nm names (.tail l ((binO w, 0) :: (a.fl ++ b.fl))) r res
    rw [h0]
    exact ht
  | @cmp op w a b xa xb wa wb h0 hw hl ha hb iha ihb =>
    have hb5 := bin_words w hw
    rw [h0] at hb5
    refine ⟨by omega, fun _ _ r res hr ht => ?_, by omega, by omega⟩
    have hr3 : binO (ybg r) = 0 ∨ yef (binO (ybg r)) ≠ 3 := by
      rcases hr.2 with h | h | h
      · exact .inl h
      · exact .inr (by omega)
      · exact absurd rfl h.2
    have hres := (p_tail0 (nm := nm) (names := names) (left := (Ex.bi (op, 0) a b).fl) hr3).det ht
    subst hres
    rw [List.append_assoc]
    refine p_bin (by omega) (iha.full (by omega) (by omega) (fol_op hw (by rw [h0, hl]; omega))) ?_
    refine p_tail (t := pwS w) (by show binO w ≠ 0; rw [h0]; exact hb5.1) (by show yef (binO w) = 3; rw [h0, hl]) (ihb.bin (by omega) (by omega) hr.up) (fun e => ?_) fun e => absurd rfl e
    show _ = Res.ok ((binO w, 0) :: (a.fl ++ b.fl)) r
    rw [h0]; rfl
  | @neg a xa wa ha iha => exact ⟨by omega, by omega, fun _ r hr => p_neg rfl (iha.2.2.1 rfl r hr), by omega⟩
  | @not a xa wa ha iha => exact ⟨by omega, by omega, fun _ r hr => p_not rfl (iha.2.2.1 rfl r hr), by omega⟩
  | @agg op w a xa wa h0 hw ha iha =>
    obtain ⟨g1, g2, g3, g4, g5, g6⟩ := agg_words w hw
    refine ans_prim (fun r hr => ?_) g5 g6 (by simp)
    have := p_agg (t := pwN w) (t2 := pwS [40]) (t4 := pwS [41]) (r4 := r) (by simp [pwN]) g3 g4 g2 g1 rfl (iha.1 rfl (pwS [41] :: r) (fol_sign (by decide) (by decide) (.inl (by decide)))) rfl
    rw [show aggO (pwN w).w = op from h0] at this
    simpa [Ex.fl] using this
  | @num n hn =>
    have hd := dec_digits n
    have hne : dec n ≠ [45] ∧ dec n ≠ [33] := by constructor <;> (intro e; rw [e] at hd; have := hd _ (List.mem_singleton.2 rfl); revert this; decide)
    exact ans_prim (fun r hr => p_num rfl) hne.1 hne.2 (by simp)
  | @own i w h =>
    have hg := hN.good w (List.mem_of_getElem? h)
    obtain ⟨g1, g2, g3, g4, g5, g6, g7⟩ := hN.res w hg
    exact ans_prim (fun r hr => p_var (t := pwN w) (by simp [pwN]) g5 g4 g1 g2 hg (idxW_get hN.nodup h)) g6 g7 (by simp)
  | @near i w h =>
    have hg := hN.good w (List.mem_of_getElem? h)
    obtain ⟨g1, g2, g3, g4, g5, g6, g7⟩ := hN.res w hg
    refine ans_prim (fun r hr => ?_) (by simp [ybg, pwN]) (by simp [ybg, pwN]) (by simp)
    have := p_q (nm := nm) (names := names) (t := pwN [113]) (r := pwS [46] :: pwN w :: r) (by simp [pwN]) rfl
    have e : nearR nm names (pwS [46] :: pwN w :: r) = .ok [(12, (i : Int))] r := by
      simp only [nearR, ybg, pwS, pwN, if_pos, List.tail_cons, g3, varR, hg, idxW_get hN.nodup h]
    rw [e] at this
    exact this
  | here =>
    refine ans_prim (fun r hr => ?_) (by simp [ybg, pwN]) (by simp [ybg, pwN]) (by simp)
    have := p_q (nm := nm) (names := names) (t := pwN [113]) (r := r) (by simp [pwN]) rfl
    rw [nearR, if_neg hr] at this
    exact this
  | @const op w h0 hw hne =>
    obtain ⟨g1, g2, g3, g4, g5⟩ := const_words w hw hne
    refine ans_prim (fun r hr => ?_) g4 g5 (by simp)
    have := p_const (nm := nm) (names := names) (t := pwN w) (r := r) (by simp [pwN]) g2 g3 g1
    rw [show yeu (pwN w).w = op from h0] at this
    exact this
  | @field op w h0 hw =>
    refine ans_prim (fun r hr => ?_) (by simp [ybg, pwN]) (by simp [ybg, pwN]) (by simp)
    have := p_q (nm := nm) (names := names) (t := pwN [113]) (r := pwS [46] :: pwN w :: r) (by simp [pwN]) rfl
    have e : nearR nm names (pwS [46] :: pwN w :: r) = .ok [(op, 0)] r := by
      have h1 : op ≠ 0 := h0 ▸ field_words w hw
      simp only [nearR, ybg, pwS, pwN, if_pos, List.tail_cons, h0, if_neg h1]
    rw [e] at this
    exact this
end Go.Proofs.YtcpgpiabeimefaaGreatDoor
