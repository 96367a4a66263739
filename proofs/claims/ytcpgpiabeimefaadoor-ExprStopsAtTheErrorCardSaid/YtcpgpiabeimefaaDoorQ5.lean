/- Part 5 of the texts under ExprStopsAtTheError: joined, with what it needs alone. -/
import Derived.Maps.RangeRun
import Derived.Maps.Keyed
import Derived.Carry
import GoSem.Core.Utf8
import Derived.Laws.BytesArg
import Derived.Test.YtcpgpiabeimefaaDoorQ4
set_option linter.unusedVariables false
namespace Go.Proofs.YtcpgpiabeimefaaDoor
open Go.RowKit Go.Maps

section
variable {P : Program} {T : Nat → Option Ty} {N : Nat} {ops : Array Oper} {lf : Oper → Bool} {Q : SS → Prop} {t : List (Nat × AV)} {h : List (Nat × Option LObj)} {rest : List Oper} {d : Nat} {op : Op} {ty : TypeId} {pos : String} {af : Array Edge} {gd : Option (Nat × Bool)} {r : AV}

inductive Found (z : Value) (es : List (Value × Value)) (key : Value) : Value → Bool → Prop
  | hit {v : Value} (h1 : ∃ e ∈ es, e.1 = key) (h2 : ∀ e ∈ es, e.1 = key → e.2 = v) : Found z es key v true
  | miss (h : ∀ e ∈ es, e.1 ≠ key) : Found z es key z false
end
end Go.Proofs.YtcpgpiabeimefaaDoor

set_option linter.unusedVariables false
namespace Go.Proofs.YtcpgpiabeimefaaDoor
open Go.RowKit

structure Wk (a b : AV) : Prop where
  cell : ydg a = true → ydg b = true
  rel : ∀ (ok : Nat → Prop) (w : World) (lv : Live) (v : Value), Rel ok w lv a v → Rel ok w lv b v
theorem ybi (a : AV) : Wk a a := ⟨fun h => h, fun _ _ _ _ h => h⟩
inductive WkL : List AV → List AV → Prop
  | nil : WkL [] []
  | cons {a b : AV} {l m : List AV} (h : Wk a b) (t : WkL l m) : WkL (a :: l) (b :: m)
inductive WkR : List (List AV) → List (List AV) → Prop
  | nil : WkR [] []
  | cons {a b : List AV} {l m : List (List AV)} (h : WkL a b) (t : WkR l m) : WkR (a :: l) (b :: m)
theorem WkL.spec {l m : List AV} (h : WkL l m) : l.length = m.length ∧ ∀ (j : Nat) (c' : AV), m[j]? = some c' → ∃ c, l[j]? = some c ∧ Wk c c' := by
  induction h with
  | nil => exact ⟨rfl, fun j c' h => by simp at h⟩
  | cons h t ih =>
    refine ⟨by simp [ih.1], fun j c' hj => ?_⟩
    cases j with
    | zero => simp at hj; subst hj; exact ⟨_, rfl, h⟩
    | succ j => simp at hj; simpa using ih.2 j c' hj
theorem WkR.spec {l m : List (List AV)} (h : WkR l m) : l.length = m.length ∧ ∀ (j : Nat) (c' : List AV), m[j]? = some c' → ∃ c, l[j]? = some c ∧ WkL c c' := by
  induction h with
  | nil => exact ⟨rfl, fun j c' h => by simp at h⟩
  | cons h t ih =>
    refine ⟨by simp [ih.1], fun j c' hj => ?_⟩
    cases j with
    | zero => simp at hj; subst hj; exact ⟨_, rfl, h⟩
    | succ j => simp at hj; simpa using ih.2 j c' hj
theorem Con.weak {P : Program} {f : FuncId} {args args' : List AV} {r : AV} (h : WkL args args') (hc : Con P f args' r) : Con P f args r := by
  obtain ⟨h1, h2, h3⟩ := hc
  obtain ⟨g1, g2⟩ := h.spec
  refine ⟨h1, h2, fun ok0 w us hG hok hr => h3 ok0 w us hG hok ⟨hr.1.trans g1, fun i x u hx hu => ?_⟩⟩
  obtain ⟨c, k1, k2⟩ := g2 i x hx
  exact k2.rel _ _ _ _ (hr.2 i c u k1 hu)

theorem calls_of_con {P : Program} {f : FuncId} {args : List AV} {x : Value} (hc : Con P f args (.v x)) {w : World} (hG : Glob w) {us : List Value} {ok : Nat → Prop} (hok : ∀ g, ok g → g < w.heap.size) (h : ybp ok w (fun _ => none) args us) : Calls P f us.toArray w fun e w' => e = .returned x ∧ Below w.heap.size w w' :=
  (hc.2.2 ok w us hG hok h).mono fun e w' ⟨u, h1, h2, h3⟩ => by cases h2; exact ⟨h1, h3⟩

section
variable {P : Program} {T : Nat → Option Ty} {N : Nat} {ops : Array Oper} {lf : Oper → Bool} {Q : SS → Prop} {t : List (Nat × AV)} {h : List (Nat × Option LObj)} {rest : List Oper} {d : Nat} {op : Op} {ty : TypeId} {pos : String} {af : Array Edge} {gd : Option (Nat × Bool)} {r : AV}
end
end Go.Proofs.YtcpgpiabeimefaaDoor
set_option linter.unusedVariables false
namespace Go.Proofs.YtcpgpiabeimefaaDoor
open Go.RowKit

section
variable {P : Program} {T : Nat → Option Ty} {N : Nat} {ops : Array Oper} {lf : Oper → Bool} {Q : SS → Prop} {t : List (Nat × AV)} {h : List (Nat × Option LObj)} {rest : List Oper} {d : Nat} {op : Op} {ty : TypeId} {pos : String} {af : Array Edge} {gd : Option (Nat × Bool)} {r : AV}
end
section
variable {P : Program} {N : Nat} {ops : Array Oper} {lf : Oper → Bool} {Q Q0 : SS → Prop}
def stepOk (ops : Array Oper) (lf : Oper → Bool) (k : Nat) (listed : Array Bool) : Bool :=
  (Region.ready .any ops listed).contains k && (match ops[k]? with
      | none => false
      | some o => (if lf o then Region.ready .any ops listed == [k] else (List.range ops.size).all fun j => j == k || listed.getD j true || waits ops ops.size j k || match ops[j]? with
        | some oj => o.apart ops oj && !lf oj
        | none => true))
def preOk (ops : Array Oper) (lf : Oper → Bool) : List Nat → Array Bool → Bool
  | [], _ => true
  | k :: ks, listed => stepOk ops lf k listed && preOk ops lf ks (listed.setIfInBounds k true)
def listAll : List Nat → Array Bool → Array Bool
  | [], listed => listed
  | k :: ks, listed => listAll ks (listed.setIfInBounds k true)
theorem anyA_pre {l : List Oper} {s : SS} {fuel : Nat} (h : Lex P N ops lf Q0 l s) (hD : ∀ (k : Nat) (o : Oper), ops[k]? = some o → DstOk N o) : ∀ (ks : List Nat) (listed : Array Bool), (∀ j : Nat, l[j]? = (ks[j]?).bind (fun k : Nat => ops[k]?)) → ks.length = l.length → Closed ops listed →
    (Closed ops (listAll ks listed) → ∀ s', Q0 s' → anyA P N ops lf Q fuel (listAll ks listed) s') → preOk ops lf ks listed = true → anyA P N ops lf Q (l.length + fuel) listed s := by
  induction h with
  | @nil s h =>
    intro ks listed hl hlen hcl hend hB
    have : ks = [] := List.eq_nil_of_length_eq_zero (by simpa using hlen)
    subst this
    simpa [listAll] using hend hcl s h
  | @split l s d b hb k ih =>
    intro ks listed hl hlen hcl hend hB
    have := ih b rfl ks listed hl hlen hcl hend hB
    rw [yfl hb] at this
    exact this
  | @calm o l s r hw hd hy k ih =>
    intro ks listed hl hlen hcl hend hB
    match ks, hlen with
    | k :: ks, hlen =>
      have h0 : ops[k]? = some o := by simpa using (hl 0).symm
      simp only [preOk, stepOk, h0, Bool.and_eq_true] at hB
      obtain ⟨⟨hr, hf⟩, hB'⟩ := hB
      have hr' : k ∈ Region.ready .any ops listed := by simpa using hr
      have hk := ih ks (listed.setIfInBounds k true) (fun j => by have := hl (j + 1); simpa using this) (by simpa using hlen) (hcl.set hr') hend hB'
      rw [List.length_cons, Nat.add_right_comm]
      by_cases hlo : lf o = true
      · simp only [hlo, if_true, beq_iff_eq] at hf
        refine ⟨fun h => (by rw [hf] at h; cases h), fun i hi => ?_⟩
        rw [hf] at hi
        simp only [List.mem_singleton] at hi
        subst hi
        unfold aOp
        simp only [h0]
        exact ⟨hd, .inl ⟨r, .inl ⟨hw, hy⟩, hk⟩⟩
      · simp only [hlo] at hf
        refine anyA_first h0 hd (l.length + fuel) listed s hcl ?_ hr' (.inl ⟨hw, hy⟩) hk
        intro j oj hj hne hun
        simp only [Bool.false_eq_true, if_false, List.all_eq_true, List.mem_range] at hf
        have := hf j (Array.getElem?_eq_some_iff.1 hj).1
        simp only [hj, hun, Bool.or_eq_true, beq_iff_eq, hne, false_or, Bool.false_eq_true, Bool.and_eq_true, Bool.not_eq_true', or_false] at this
        exact this
  | @skip o l s hw hd k ih =>
    intro ks listed hl hlen hcl hend hB
    match ks, hlen with
    | k :: ks, hlen =>
      have h0 : ops[k]? = some o := by simpa using (hl 0).symm
      simp only [preOk, stepOk, h0, Bool.and_eq_true] at hB
      obtain ⟨⟨hr, hf⟩, hB'⟩ := hB
      have hr' : k ∈ Region.ready .any ops listed := by simpa using hr
      have hk := ih ks (listed.setIfInBounds k true) (fun j => by have := hl (j + 1); simpa using this) (by simpa using hlen) (hcl.set hr') hend hB'
      rw [List.length_cons, Nat.add_right_comm]
      by_cases hlo : lf o = true
      · simp only [hlo, if_true, beq_iff_eq] at hf
        refine ⟨fun h => (by rw [hf] at h; cases h), fun i hi => ?_⟩
        rw [hf] at hi
        simp only [List.mem_singleton] at hi
        subst hi
        unfold aOp
        simp only [h0]
        exact ⟨hd, .inl ⟨.v undef, .inr ⟨hw, rfl⟩, hk⟩⟩
      · simp only [hlo] at hf
        refine anyA_first h0 hd (l.length + fuel) listed s hcl ?_ hr' (.inr ⟨hw, rfl⟩) hk
        intro j oj hj hne hun
        simp only [Bool.false_eq_true, if_false, List.all_eq_true, List.mem_range] at hf
        have := hf j (Array.getElem?_eq_some_iff.1 hj).1
        simp only [hj, hun, Bool.or_eq_true, beq_iff_eq, hne, false_or, Bool.false_eq_true, Bool.and_eq_true, Bool.not_eq_true', or_false] at this
        exact this
  | @loud o l s R hlo hw hy k ih =>
    intro ks listed hl hlen hcl hend hB
    match ks, hlen with
    | k :: ks, hlen =>
      have h0 : ops[k]? = some o := by simpa using (hl 0).symm
      simp only [preOk, stepOk, h0, Bool.and_eq_true] at hB
      obtain ⟨⟨hr, hf⟩, hB'⟩ := hB
      have hr' : k ∈ Region.ready .any ops listed := by simpa using hr
      simp only [hlo, if_true, beq_iff_eq] at hf
      rw [List.length_cons, Nat.add_right_comm]
      refine ⟨fun h => (by rw [hf] at h; cases h), fun i hi => ?_⟩
      rw [hf] at hi
      simp only [List.mem_singleton] at hi
      subst hi
      unfold aOp
      simp only [h0]
      exact ⟨hD _ _ h0, .inr ⟨hlo, hw, R, hy, fun s' hs' => ih s' hs' ks (listed.setIfInBounds i true) (fun j => by have := hl (j + 1); simpa using this) (by simpa using hlen) (hcl.set hr') hend hB'⟩⟩
def numOk (ops : Array Oper) : List Nat → List Oper → Prop
  | [], [] => True
  | k :: ks, o :: l => ops[k]? = some o ∧ numOk ops ks l
  | _, _ => False
theorem numOk_nil : numOk ops [] [] := trivial
theorem ydy {k : Nat} {ks : List Nat} {o : Oper} {l : List Oper} (h : ops[k]? = some o) (hl : numOk ops ks l) : numOk ops (k :: ks) (o :: l) := ⟨h, hl⟩
theorem numOk_get {ks : List Nat} : ∀ {l : List Oper}, numOk ops ks l → ks.length = l.length ∧ ∀ j : Nat, l[j]? = (ks[j]?).bind (fun k : Nat => ops[k]?) := by
  induction ks with
  | nil =>
    intro l h
    cases l with
    | nil => exact ⟨rfl, fun j => by simp⟩
    | cons o l => exact h.elim
  | cons k ks ih =>
    intro l h
    cases l with
    | nil => exact h.elim
    | cons o l =>
      obtain ⟨h1, h2⟩ := ih h.2
      refine ⟨by simp [h1], fun j => ?_⟩
      cases j with
      | zero => simp only [List.getElem?_cons_zero, Option.bind_some, h.1]
      | succ j => simpa using h2 j
def AnyB (P : Program) (N : Nat) (ops : Array Oper) (lf : Oper → Bool) (Q : SS → Prop) (fuel : Nat) (listed : Array Bool) (s : SS) : Prop :=
  (∀ (k : Nat) (o : Oper), ops[k]? = some o → DstOk N o) → Closed ops listed → anyA P N ops lf Q fuel listed s
theorem A_region_any {P : Program} {N : Nat} {Q : Exit → SS → Prop} {s : SS} {lf : Oper → Bool} (hm : P.follows .mixedOrders = true) {id : Nat} {l : List Oper} (hD : dstsOk N l = true) (k : AnyB P N l.toArray lf (Q .normal) l.length (Array.replicate l.length false) s) : A P N (.region id l.toArray true) Q s := by
  intro B ok0 lv ac w hs
  have hDst : ∀ (k : Nat) (o : Oper), l.toArray[k]? = some o → DstOk N o := fun k o ho d hd => by
    simp only [dstsOk, Bool.and_eq_true, List.all_eq_true] at hD
    have := hD.1 o (by have := Array.mem_of_getElem? ho; simpa using this)
    simp only [hd, Nat.blt_eq] at this
    exact this
  have hnd : yem l = true := by simp only [dstsOk, Bool.and_eq_true] at hD; exact hD.2
  refine wpIn_region_any hm ?_
  have key := k hDst (fun k o hk => by
    simp only [Array.getD_eq_getD_getElem?, Array.getElem?_replicate] at hk
    split at hk <;> simp at hk)
  have := anyA_sound (n := 0) (noDefer_get hnd) (Q' := fun e a' w' => ∃ s' lv', Q e s' ∧ Sim B ok0 N s' lv' a' w') (fun s lv a w hq hs => ⟨s, lv, hq, hs⟩) l.length _ s lv ac _ (hs.drew (w' := { w with drawn := w.drawn + 1 }) ⟨rfl, rfl, rfl, Nat.le_refl _, fun _ _ => rfl⟩) key
  simpa using this
theorem any_pre (ks : List Nat) (fuel : Nat) {n : Nat} {listed : Array Bool} {l : List Oper} {s : SS} (hn : numOk ops ks l) (hf : n = l.length + fuel) (hB : preOk ops lf ks listed = true) (k : Lex P N ops lf (AnyB P N ops lf Q fuel (listAll ks listed)) l s) : AnyB P N ops lf Q n listed s := by
  intro hD hcl
  subst hf
  obtain ⟨p1, p2⟩ := numOk_get hn
  exact anyA_pre k hD ks listed p2 p1 hcl (fun hc s' h => h hD hc) hB
theorem any_rest (ks : List Nat) {n : Nat} {listed : Array Bool} {l : List Oper} {s : SS} (hn : numOk ops ks l) (hf : n = l.length) (hB : ordOk ops lf ks listed = true) (k : Lex P N ops lf Q l s) : AnyB P N ops lf Q n listed s := by
  intro hD hcl
  subst hf
  obtain ⟨p1, p2⟩ := numOk_get hn
  exact anyA_lex k hD ks listed p2 p1 hcl hB
def forkAll (P : Program) (N : Nat) (ops : Array Oper) (lf : Oper → Bool) (Q : SS → Prop) (fuel : Nat) (listed : Array Bool) (s : SS) : List Nat → Prop
  | [] => True
  | k :: ks => (∃ o, ops[k]? = some o ∧ Lex P N ops lf (AnyB P N ops lf Q fuel (listed.setIfInBounds k true)) [o] s) ∧ forkAll P N ops lf Q fuel listed s ks
theorem forkAll_get {fuel : Nat} {listed : Array Bool} {s : SS} : ∀ {ks : List Nat}, forkAll P N ops lf Q fuel listed s ks → ∀ k ∈ ks, ∃ o, ops[k]? = some o ∧ Lex P N ops lf (AnyB P N ops lf Q fuel (listed.setIfInBounds k true)) [o] s
  | [], _, k, h => by cases h
  | x :: ks, hh, k, h => by
    rcases List.mem_cons.1 h with rfl | h
    · exact hh.1
    · exact forkAll_get hh.2 k h
theorem aOp_one {l : List Oper} {s : SS} {Q0 : SS → Prop} (h : Lex P N ops lf Q0 l s) (hD : ∀ (k : Nat) (o : Oper), ops[k]? = some o → DstOk N o) : ∀ (o : Oper), l = [o] → ∀ (k : Nat), ops[k]? = some o → aOp P N ops lf k Q0 s := by
  have nilQ : ∀ {s : SS}, Lex P N ops lf Q0 [] s → Q0 s := by
    intro s h
    generalize hl : ([] : List Oper) = l at h
    induction h with
    | nil h => exact h
    | calm => cases hl
    | skip => cases hl
    | loud => cases hl
    | @split l s d b hb k ih =>
      have := ih b rfl hl
      rw [yfl hb] at this
      exact this
  induction h with
  | nil h => intro o hl; cases hl
  | @split l s d b hb k ih =>
    intro o hl k h0
    have := ih b rfl o hl k h0
    rw [yfl hb] at this
    exact this
  | @calm o l s r hw hd hy k ih =>
    intro o' hl k' h0
    cases hl
    unfold aOp
    simp only [h0]
    exact ⟨hd, .inl ⟨r, .inl ⟨hw, hy⟩, nilQ k⟩⟩
  | @skip o l s hw hd k ih =>
    intro o' hl k' h0
    cases hl
    unfold aOp
    simp only [h0]
    exact ⟨hd, .inl ⟨.v undef, .inr ⟨hw, rfl⟩, nilQ k⟩⟩
  | @loud o l s R hlo hw hy k ih =>
    intro o' hl k' h0
    cases hl
    unfold aOp
    simp only [h0]
    exact ⟨hD _ _ h0, .inr ⟨hlo, hw, R, hy, fun s' hs' => nilQ (k s' hs')⟩⟩
theorem any_fork (ks : List Nat) (fuel : Nat) {n : Nat} {listed : Array Bool} {s : SS} (hf : n = fuel + 1) (hr : Region.ready .any ops listed = ks) (hne : ks ≠ []) (k : forkAll P N ops lf Q fuel listed s ks) : AnyB P N ops lf Q n listed s := by
  intro hD hcl
  subst hf
  refine ⟨fun h => absurd (hr.symm.trans h) hne, fun i hi => ?_⟩
  obtain ⟨o, ho, hL⟩ := forkAll_get k i (hr ▸ hi)
  exact aOp_mono (fun s' h => h hD (hcl.set hi)) (aOp_one hL hD o rfl i ho)
end
end Go.Proofs.YtcpgpiabeimefaaDoor
set_option linter.unusedVariables false
namespace Go.Proofs.YtcpgpiabeimefaaDoor
open Go.RowKit
section
variable {P : Program} {T : Nat → Option Ty} {N : Nat} {ops : Array Oper} {lf : Oper → Bool} {Q : SS → Prop} {t : List (Nat × AV)} {h : List (Nat × Option LObj)} {rest : List Oper} {d : Nat} {op : Op} {ty : TypeId} {pos : String} {af : Array Edge} {gd : Option (Nat × Bool)} {r : AV}
end
def resOneT (T : Nat → Option Ty) (s : SS) : ResultVar → Option AV
  | .tmp t => evF s.t (.tmp t)
  | .cell b t => match T t with
    | some y => match evF s.t (.tmp b) with
      | some (.lp id off) => match cellsL (s.h id) with
        | some xs => getA y.agg y.size (xs.drop off)
        | none => none
      | _ => none
    | none => none
def resLT (T : Nat → Option Ty) (s : SS) : List ResultVar → Option (List AV)
  | [] => some []
  | r :: rs => match resOneT T s r, resLT T s rs with
    | some x, some xs => some (x :: xs)
    | _, _ => none
def resAT (T : Nat → Option Ty) (s : SS) (rs : List ResultVar) : Option AV :=
  match resLT T s rs with
  | some [x] => some x
  | some xs => some (.tup xs)
  | none => none
theorem resOneT_run {P : Program} {T : Nat → Option Ty} (hT : TOK P T) {B : Bse} {ok0 : Nat → Prop} {N : Nat} {s : SS} {lv : Live} {a : Act} {w : World} (hs : Sim B ok0 N s lv a w) {r : ResultVar} {x : AV} (h : resOneT T s r = some x) : ∃ u, Rel (ybh B ok0 lv w) w lv x u ∧ (resF a.tmps r).run P w = .ok u w := by
  cases r with
  | tmp t => exact ⟨_, hs.eval (x := .tmp t) h, by simp [resF, Act.eval]⟩
  | cell b t =>
    simp only [resOneT] at h
    split at h
    · rename_i y hy
      split at h
      · rename_i id off hb
        split at h
        · rename_i xs hx
          obtain ⟨g1, g2⟩ := ydb hx
          obtain ⟨b', n, k1, k2, k3⟩ := yck hs.inv g1 g2 (hs.eval (x := .tmp b) hb)
          have k4 := k3.drop off
          rw [Nat.zero_add] at k4
          obtain ⟨u, k5, k6⟩ := load_run (hT _ _ hy).1 k4 h
          have k2' : a.tmps.getD b undef = .pointer (some ⟨b', off, none⟩) := k2
          exact ⟨u, k6, by simp [resF, k2', asAddr, k5]⟩
        · cases h
      · cases h
    · cases h
theorem resLT_run {P : Program} {T : Nat → Option Ty} (hT : TOK P T) {B : Bse} {ok0 : Nat → Prop} {N : Nat} {s : SS} {lv : Live} {a : Act} {w : World} (hs : Sim B ok0 N s lv a w) : ∀ (rs : List ResultVar) (xs : List AV), resLT T s rs = some xs →
    ∃ us : List Value, ybp (ybh B ok0 lv w) w lv xs us ∧ (rs.mapM (resF a.tmps)).run P w = .ok us w
  | [], xs, h => by simp only [resLT, Option.some.injEq] at h; subst h; exact ⟨[], ⟨rfl, fun i x u h => by simp at h⟩, by simp⟩
  | r :: rs, xs, h => by
    simp only [resLT] at h
    split at h
    · rename_i x xs' h1 h2
      simp only [Option.some.injEq] at h
      subst h
      obtain ⟨us, hus, hrun⟩ := resLT_run hT hs rs xs' h2
      obtain ⟨u, hu, hrun1⟩ := resOneT_run hT hs h1
      refine ⟨u :: us, ⟨by simp [hus.1], fun i y v hy hv => ?_⟩, ?_⟩
      · cases i with
        | zero => simp only [List.getElem?_cons_zero, Option.some.injEq] at hy hv; subst hy hv; exact hu
        | succ i => exact hus.2 i y v (by simpa using hy) (by simpa using hv)
      · simp only [List.mapM_cons, Sem.run_bind, hrun1, Sem.run_pure, Result.andThen_ok, hrun]
    · cases h
theorem resAT_run {P : Program} {T : Nat → Option Ty} (hT : TOK P T) {B : Bse} {ok0 : Nat → Prop} {N : Nat} {s : SS} {lv : Live} {a : Act} {w : World} (hs : Sim B ok0 N s lv a w) {fn : Func} {rs : List ResultVar} (hr : fn.results = rs.toArray) {x : AV} (h : resAT T s rs = some x) :
    ∃ u, Rel (ybh B ok0 lv w) w lv x u ∧ (results fn a.tmps).run P w = .ok u w := by
  unfold resAT at h
  have key : ∀ xs, resLT T s rs = some xs → ∃ us : List Value, ybp (ybh B ok0 lv w) w lv xs us ∧ (results fn a.tmps).run P w = .ok (if h : us.toArray.size = 1 then us.toArray[0] else .tuple us.toArray) w := by
    intro xs hx
    obtain ⟨us, h1, h2⟩ := resLT_run hT hs rs xs hx
    refine ⟨us, h1, ?_⟩
    have e : results fn a.tmps = (fn.results.mapM (resF a.tmps) >>= fun vs => pure (if h : vs.size = 1 then vs[0] else .tuple vs)) := rfl
    have e2 : (List.toArray <$> rs.mapM (resF a.tmps)) = (rs.mapM (resF a.tmps) >>= fun l => pure l.toArray) := rfl
    rw [e, hr, List.mapM_toArray, e2]
    simp only [Sem.run_bind, h2, Result.andThen_ok, Sem.run_pure]
  split at h
  · rename_i y hy
    simp only [Option.some.injEq] at h
    subst h
    obtain ⟨us, h1, h2⟩ := key _ hy
    match us, h1 with
    | [u], h1 => exact ⟨u, h1.2 0 _ _ rfl rfl, by simpa using h2⟩
  · rename_i xs hne hy
    simp only [Option.some.injEq] at h
    subst h
    obtain ⟨us, h1, h2⟩ := key _ hy
    refine ⟨.tuple us.toArray, .tup us h1.1 h1.2, ?_⟩
    rw [h2, dif_neg]
    intro h
    have hl := h1.1
    simp only [List.size_toArray] at h
    rw [h] at hl
    match xs, hl with
    | [x], _ => exact hne x rfl
  · cases h
def EndsT (T : Nat → Option Ty) (rs : List ResultVar) (y : AV) : Exit → SS → Prop
  | .normal, s => ∃ x, resAT T s rs = some x ∧ Frz s.h x y
  | .ret, s => ∃ x, resAT T s rs = some x ∧ Frz s.h x y
  | _, _ => False
theorem con_ofT {P : Program} {T : Nat → Option Ty} (hT : TOK P T) {f : FuncId} {fn : Func} {c : Code} {N : Nat} {rs : List ResultVar} {args : List AV} {r : AV} (hf : P.funcs[f]? = some fn) (hn : (fn.name == "runtime.NumGoroutine") = false) (hb : fn.body = some c) (hN : fn.ntmps = N) (hrs : fn.results = rs.toArray) (hlen : (Nat.ble args.length N && Nat.ble N 1000000) = true) (hp : ybn r = true)
    (h : A P N c (EndsT T rs r) (S (yer 0 args) [])) : Con P f args r := by
  refine ⟨⟨fn, hf, hn, by simp [hb]⟩, hp, fun ok0 w us hG hok hus => ?_⟩
  simp only [Bool.and_eq_true, Nat.ble_eq] at hlen
  obtain ⟨hlen', hbig⟩ := hlen
  refine (callsIn_wide (n := 0)).1 (callsIn_of_wp_marks hf hb trivial ?_)
  have hst : S (yer 0 args) [] = ⟨argsF args, fun _ => none⟩ := by unfold S; rw [enumF_args]; rfl
  have hs : Sim (bse0 w) ok0 N (S (yer 0 args) []) (fun _ => none) { tmps := us.toArray ++ Array.replicate (fn.ntmps - us.toArray.size) undef, defers := [] } w := by
    rw [hst]
    refine ⟨⟨Based.start hG, hok, fun _ _ => rfl, (fun i j b n m h => by cases h), (fun id x hx => by cases hx)⟩, ?_, fun x y hy => ?_, ⟨[], rfl, List.nodup_nil, fun d hd => by cases hd⟩, hbig, fun id b xs _ hx => by cases hx⟩
    · simp [hN, hus.1]; omega
    · have hlt := (List.getElem?_eq_some_iff.1 hy).1
      refine ⟨.inl (by omega), ?_⟩
      rw [yei, if_pos (by omega)]
      obtain ⟨u, hu⟩ : ∃ u, us[x]? = some u := ⟨_, List.getElem?_eq_getElem (by rw [hus.1]; exact hlt)⟩
      simp only [getD_args us _ x u hu]
      exact (hus.2 x y u hy hu).keep fun g hg => ⟨⟨.inl hg, hok g hg, fun id b n hb => by cases hb⟩, rfl⟩
  refine wpIn_mono (h _ ok0 _ _ w hs) fun e a' w' ⟨s', lv', hq, hs'⟩ => ?_
  have fin : ∀ x, resAT T s' rs = some x → Frz s'.h x r → ∀ (a' : Act) (w' : World), Sim (bse0 w) ok0 N s' lv' a' w' → ∃ v, (results fn a'.tmps).run P w' = .ok v w' ∧ ∃ u, Ending.returned v = .returned u ∧ Rel (fun g => (ok0 g ∨ w.heap.size ≤ g) ∧ g < w'.heap.size) w' (fun _ => none) r u ∧ Below w.heap.size w w' := by
    intro x hx hfz a' w' hs'
    obtain ⟨u, hu, hrun⟩ := resAT_run hT hs' hrs hx
    exact ⟨u, hrun, u, rfl, (hfz _ _ _ _ _ hs'.inv hu).keep (fun g hg => ⟨⟨hg.1.imp (fun h => h) (fun h => h.elim (fun h => h.elim) (fun h => h)), hg.2⟩, rfl⟩), hs'.inv.base.below⟩
  cases e with
  | normal => obtain ⟨x, hx, hfz⟩ := hq; exact ycr rfl rfl (fin x hx hfz) _ a' w' rfl hs'
  | ret => obtain ⟨x, hx, hfz⟩ := hq; exact ycr rfl rfl (fin x hx hfz) _ a' w' rfl hs'
  | _ => exact hq.elim
end Go.Proofs.YtcpgpiabeimefaaDoor
set_option linter.unusedVariables false
namespace Go.Proofs.YtcpgpiabeimefaaDoor
open Go.RowKit

def yen (σ : Nat → Nat) : AV → AV
  | .lp id off => .lp (σ id) off
  | .ls id s n => .ls (σ id) s n
  | .mp id => .mp (σ id)
  | .agg cs => .agg (renL cs)
  | .tup cs => .tup (renL cs)
  | .fn f cs => .fn f (renL cs)
  | x => x
  where renL : List AV → List AV
  | [] => []
  | c :: cs => yen σ c :: renL cs
theorem yce (σ : Nat → Nat) : ∀ cs, yen.renL σ cs = cs.map (yen σ)
  | [] => rfl
  | c :: cs => by simp [yen.renL, yce σ cs]
def yfq (ids : List Nat) : AV → Bool
  | .lp id _ => ids.contains id
  | .ls id _ _ => ids.contains id
  | .mp id => ids.contains id
  | .agg cs => onlyL cs
  | .tup cs => onlyL cs
  | .fn _ cs => onlyL cs
  | _ => true
  where onlyL : List AV → Bool
  | [] => true
  | c :: cs => yfq ids c && onlyL cs
def renO (σ : Nat → Nat) : LObj → LObj
  | .cells xs => .cells (yen.renL σ xs)
  | .tcells e xs => .tcells e (yen.renL σ xs)
  | .mcells xs => .mcells (yen.renL σ xs)
  | o => o
def onlyO (ids : List Nat) : LObj → Bool
  | .cells xs => yfq.onlyL ids xs
  | .tcells _ xs => yfq.onlyL ids xs
  | .mcells xs => yfq.onlyL ids xs
  | _ => true
theorem yfd (σ : Nat → Nat) (x : AV) : ydg (yen σ x) = ydg x := by cases x <;> rfl

section
variable {ok : Nat → Prop} {w : World} {lv lv1 : Live} {σ : Nat → Nat}
theorem Rel.unren (hl : ∀ id b n, lv1 id = some (b, n) → lv (σ id) = some (b, n)) : ∀ {x : AV} {u : Value}, Rel ok w lv (yen σ x) u → Rel ok w lv1 x u
  | .v _, u, h => by cases h; exact .v _
  | .any, u, h => .any u
  | .one, u, h => by cases h with | one _ h1 => exact .one _ h1
  | .sl s rows, u, h => by cases h with | sl a cap u g o hn hc ha hr hg hcell hrel => exact .sl a cap u g o hn hc ha hr hg hcell hrel
  | .dp row off, u, h => by cases h with | dp g o u hg hcell hrel => exact .dp g o u hg hcell hrel
  | .mv es, u, h => by cases h with | mv b hg hm => exact .mv b hg hm
  | .lp id off, u, h => by cases h with | lp _ h1 h2 => exact .lp _ h1 fun b n hb => h2 b n (hl id _ n hb)
  | .ls id s n, u, h => by cases h with | ls _ h1 h2 => exact .ls _ h1 fun b n hb => h2 b n (hl id _ n hb)
  | .mp id, u, h => by cases h with | mp _ h1 h2 => exact .mp _ h1 fun b n hb => h2 b n (hl id _ n hb)
  | .agg cs, u, h => by
    cases h with
    | agg vs hlen hc hr =>
      exact .agg vs (by rw [hlen, yce]; simp) (fun c hm => by rw [← yfd σ]; exact hc _ (by rw [yce]; exact List.mem_map_of_mem hm)) (rows hr)
  | .tup cs, u, h => by
    cases h with
    | tup vs hlen hr => exact .tup vs (by rw [hlen, yce]; simp) (rows hr)
  | .fn f cs, u, h => by
    cases h with
    | fn vs hlen hr => exact .fn vs (by rw [hlen, yce]; simp) (rows hr)
  where rows : ∀ {cs : List AV} {vs : List Value}, (∀ (i : Nat) (c : AV) (u : Value), (yen.renL σ cs)[i]? = some c → vs[i]? = some u → Rel ok w lv c u) → ∀ (i : Nat) (c : AV) (u : Value), cs[i]? = some c → vs[i]? = some u → Rel ok w lv1 c u
  | [], vs, _, i, c, u, hc, _ => by simp at hc
  | d :: cs, [], _, i, c, u, _, hu => by simp at hu
  | d :: cs, q :: vs, h, 0, c, u, hc, hu => by
    simp at hc hu
    subst hc hu
    exact Rel.unren hl (h 0 _ _ rfl rfl)
  | d :: cs, q :: vs, h, i + 1, c, u, hc, hu => rows (fun j c u h1 h2 => h (j + 1) c u (by simpa [yen.renL] using h1) (by simpa using h2)) i c u (by simpa using hc) (by simpa using hu)
theorem Rel.ren {ids : List Nat} (hl : ∀ id b n, id ∈ ids → lv (σ id) = some (b, n) → lv1 id = some (b, n)) : ∀ {x : AV} {u : Value}, yfq ids x = true → Rel ok w lv1 x u → Rel ok w lv (yen σ x) u
  | .v _, u, _, h => by cases h; exact .v _
  | .any, u, _, h => .any u
  | .one, u, _, h => by cases h with | one _ h1 => exact .one _ h1
  | .sl s rows, u, _, h => by cases h with | sl a cap u g o hn hc ha hr hg hcell hrel => exact .sl a cap u g o hn hc ha hr hg hcell hrel
  | .dp row off, u, _, h => by cases h with | dp g o u hg hcell hrel => exact .dp g o u hg hcell hrel
  | .mv es, u, _, h => by cases h with | mv b hg hm => exact .mv b hg hm
  | .lp id off, u, ho, h => by cases h with | lp _ h1 h2 => exact .lp _ h1 fun b n hb => h2 b n (hl id _ n (by simpa [yfq] using ho) hb)
  | .ls id s n, u, ho, h => by cases h with | ls _ h1 h2 => exact .ls _ h1 fun b n hb => h2 b n (hl id _ n (by simpa [yfq] using ho) hb)
  | .mp id, u, ho, h => by cases h with | mp _ h1 h2 => exact .mp _ h1 fun b n hb => h2 b n (hl id _ n (by simpa [yfq] using ho) hb)
  | .agg cs, u, ho, h => by
    cases h with
    | agg vs hlen hc hr =>
      refine .agg vs (by rw [hlen, yce]; simp) (fun c hm => ?_) (rows ho hr)
      rw [yce] at hm
      obtain ⟨y, hy, rfl⟩ := List.mem_map.1 hm
      rw [yfd]; exact hc y hy
  | .tup cs, u, ho, h => by
    cases h with
    | tup vs hlen hr => exact .tup vs (by rw [hlen, yce]; simp) (rows ho hr)
  | .fn f cs, u, ho, h => by
    cases h with
    | fn vs hlen hr => exact .fn vs (by rw [hlen, yce]; simp) (rows ho hr)
  where rows : ∀ {cs : List AV} {vs : List Value}, yfq.onlyL ids cs = true → (∀ (i : Nat) (c : AV) (u : Value), cs[i]? = some c → vs[i]? = some u → Rel ok w lv1 c u) → ∀ (i : Nat) (c : AV) (u : Value), (yen.renL σ cs)[i]? = some c → vs[i]? = some u → Rel ok w lv c u
  | [], vs, _, _, i, c, u, hc, _ => by simp [yen.renL] at hc
  | d :: cs, [], _, _, i, c, u, _, hu => by simp at hu
  | d :: cs, q :: vs, ho, h, 0, c, u, hc, hu => by
    simp only [yfq.onlyL, Bool.and_eq_true] at ho
    simp [yen.renL] at hc hu
    subst hc hu
    exact Rel.ren hl ho.1 (h 0 _ _ rfl rfl)
  | d :: cs, q :: vs, ho, h, i + 1, c, u, hc, hu => by
    simp only [yfq.onlyL, Bool.and_eq_true] at ho
    exact rows ho.2 (fun j c u h1 h2 => h (j + 1) c u (by simpa using h1) (by simpa using h2)) i c u (by simpa [yen.renL] using hc) (by simpa using hu)
end

def lentOf (lv : Live) (b : Nat) : Prop := ∃ id n, lv id = some (some b, n)
def ydf (w : World) (lv : Live) : Bse := ⟨w, lentOf lv, fun _ => none, none, [], fun _ => undef⟩
def ConM (P : Program) (f : FuncId) (args : List AV) (hs : Nat → Option LObj) (r : AV) (hs' : Nat → Option LObj) : Prop :=
  HasBody P f ∧ (∀ id o, hs' id = some o → isC o = true → ∃ o', hs id = some o' ∧ isC o' = true) ∧ ∀ (ok0 : Nat → Prop) (lv : Live) (w : World) (us : List Value), Inv (ydf w lv) ok0 hs lv w → ybp (ybh (ydf w lv) ok0 lv w) w lv args us →
    Calls P f us.toArray w fun e w' => ∃ u lv', e = .returned u ∧ Rel (ybh (ydf w lv) ok0 lv' w') w' lv' r u ∧ Inv (ydf w lv) ok0 hs' lv' w' ∧ ∀ id o, hs' id = some o → isC o = true → ∃ b n n', lv id = some (some b, n) ∧ lv' id = some (some b, n')

theorem Inv.pinned {B : Bse} {ok0 : Nat → Prop} {h : Nat → Option LObj} {lv : Live} {w : World} (hi : Inv B ok0 h lv w) (p : Nat → Option Nat) (rd : Option Nat) (dl : List Deferred) (gv : Nat → Value) (hrd : ∀ l, rd = some l → (∃ r, B.w.heap[l]? = some (.loop r)) ∧ ¬ B.lent l) : Inv ⟨B.w, B.lent, p, rd, dl, gv⟩ ok0 h lv w :=
  ⟨⟨hi.base.os, hi.base.tape, hi.base.output, hi.base.size, hi.base.block, hi.base.glob, hi.base.gsize, hi.base.lentG, hrd⟩, hi.ok0lt, hi.dom, hi.inj, fun id x hx => by
    obtain ⟨b, n, h1, h2⟩ := hi.obj id x hx
    refine ⟨b, n, h1, ?_⟩
    cases b with
    | none => exact h2
    | some b => exact h2⟩

def EndsM (T : Nat → Option Ty) (rs : List ResultVar) (r : AV) (hs' : Nat → Option LObj) : Exit → SS → Prop
  | .normal, s => ∃ x, resAT T s rs = some x ∧ Wk x r ∧ ∀ id o, hs' id = some o → s.h id = some o
  | .ret, s => ∃ x, resAT T s rs = some x ∧ Wk x r ∧ ∀ id o, hs' id = some o → s.h id = some o
  | _, _ => False

theorem yco {P : Program} {T : Nat → Option Ty} (hT : TOK P T) {f : FuncId} {fn : Func} {c : Code} {N : Nat} {rs : List ResultVar} {args : List AV} {hs hs' : Nat → Option LObj} {r : AV} (hf : P.funcs[f]? = some fn) (hn : (fn.name == "runtime.NumGoroutine") = false) (hb : fn.body = some c) (hN : fn.ntmps = N) (hrs : fn.results = rs.toArray) (hlen : (Nat.ble args.length N && Nat.ble N 1000000) = true)
    (hcl : ∀ id o, hs' id = some o → isC o = true → N ≤ id ∧ ∃ o', hs id = some o' ∧ isC o' = true) (h : A P N c (EndsM T rs r hs') ⟨ybb (yer 0 args), hs⟩) : ConM P f args hs r hs' := by
  refine ⟨⟨fn, hf, hn, by simp [hb]⟩, fun id o hx hc => (hcl id o hx hc).2, fun ok0 lv w us hi hus => ?_⟩
  simp only [Bool.and_eq_true, Nat.ble_eq] at hlen
  obtain ⟨hlen', hbig⟩ := hlen
  refine (callsIn_wide (n := 0)).1 (callsIn_of_wp_marks hf hb trivial ?_)
  have hsim : Sim ⟨w, lentOf lv, fun id => (lv id).bind (·.1), none, [], fun _ => undef⟩ ok0 N ⟨ybb (yer 0 args), hs⟩ lv { tmps := us.toArray ++ Array.replicate (fn.ntmps - us.toArray.size) undef, defers := [] } w := by
    refine ⟨hi.pinned _ _ _ _ (fun l h => by cases h), ?_, fun x y hy => ?_, ⟨[], rfl, List.nodup_nil, fun d hd => by cases hd⟩, hbig, fun id b o hN hx hc hb => ?_⟩
    · simp [hN, hus.1]; omega
    · simp only [enumF_args] at hy
      have hlt := (List.getElem?_eq_some_iff.1 hy).1
      refine ⟨.inl (by omega), ?_⟩
      rw [yei, if_pos (by omega)]
      obtain ⟨u, hu⟩ : ∃ u, us[x]? = some u := ⟨_, List.getElem?_eq_getElem (by rw [hus.1]; exact hlt)⟩
      simp only [getD_args us _ x u hu]
      exact hus.2 x y u hy hu
    · simp only at hb
      cases hl : lv id with
      | none => simp [hl] at hb
      | some q => obtain ⟨q1, q2⟩ := q; simp [hl] at hb; subst hb; exact ⟨q2, rfl⟩
  refine wpIn_mono (h _ ok0 _ _ w hsim) fun e a' w' ⟨s', lv', hq, hs2⟩ => ?_
  have fin : ∀ x, resAT T s' rs = some x → Wk x r → (∀ id o, hs' id = some o → s'.h id = some o) → ∀ (a' : Act) (w' : World), Sim ⟨w, lentOf lv, fun id => (lv id).bind (·.1), none, [], fun _ => undef⟩ ok0 N s' lv' a' w' → ∃ v, (results fn a'.tmps).run P w' = .ok v w' ∧ ∃ u lv2, Ending.returned v = .returned u ∧ Rel (ybh (ydf w lv) ok0 lv2 w') w' lv2 r u ∧ Inv (ydf w lv) ok0 hs' lv2 w' ∧ ∀ id o, hs' id = some o → isC o = true → ∃ b n n', lv id = some (some b, n) ∧ lv2 id = some (some b, n') := by
    intro x hx hwk hsub a' w' hs2
    obtain ⟨u, hu, hrun⟩ := resAT_run (P := P) hT hs2 hrs hx
    obtain ⟨lv2, i1, i2, i3⟩ := hs2.inv.weak hsub
    refine ⟨u, hrun, u, lv2, rfl, hwk.rel _ _ _ _ ((hu.relive fun id b n hb _ => i2 id b n hb).keep fun g hg => ⟨i3 g hg, rfl⟩), i1.pinned _ _ _ _ (fun l h => by cases h), fun id o hx hc => ?_⟩
    obtain ⟨h1, o', hy, hc'⟩ := hcl id o hx hc
    obtain ⟨b, n, hb, ho⟩ := hi.obj id _ hy
    cases b with
    | none => simp only [OwnAt] at ho; rcases ho with rfl | ⟨e, rfl⟩ <;> cases hc'
    | some b =>
      obtain ⟨n', hn'⟩ := hs2.pin id b o h1 (hsub id _ hx) hc (by simp [hb])
      obtain ⟨b2, n2, hb2, _⟩ := i1.obj id _ hx
      have := i2 id b2 n2 hb2
      rw [hn'] at this
      cases this
      exact ⟨b, n, _, hb, hb2⟩
  cases e with
  | normal => obtain ⟨x, hx, h1, h2⟩ := hq; exact ycr rfl rfl (fin x hx h1 h2) _ a' w' rfl hs2
  | ret => obtain ⟨x, hx, h1, h2⟩ := hq; exact ycr rfl rfl (fin x hx h1 h2) _ a' w' rfl hs2
  | _ => exact hq.elim

theorem yeg.unren {ok ok' : Nat → Prop} {w : World} {lv lv1 : Live} {σ : Nat → Nat} {b n : Nat} {x : LObj} (hl : ∀ id b n, lv1 id = some (b, n) → lv (σ id) = some (b, n)) (hk : ∀ g, ok g → ok' g) (h : yeg ok lv w b n (renO σ x)) : yeg ok' lv1 w b n x := by
  cases x with
  | cells xs =>
    obtain ⟨c, e, g1, g2, g3, g4, g5⟩ := h
    rw [yce] at g3 g4 g5
    refine ⟨c, e, g1, g2, by simpa using g3, fun y hy => by rw [← yfd σ]; exact g4 _ (List.mem_map_of_mem hy), fun j y u hy hu => ?_⟩
    exact (Rel.unren hl (g5 j (yen σ y) u (by simp [hy]) hu)).keep fun g hg => ⟨hk g hg, rfl⟩
  | vec xs =>
    obtain ⟨⟨c, e, g1, g2, g3, g4, g5⟩, hp⟩ := h
    exact ⟨⟨c, e, g1, g2, g3, g4, fun j y u hy hu => ((g5 j y u hy hu).relive fun id b n _ hm => by rw [ybn.ment (hp y (List.mem_of_getElem? hy))] at hm; cases hm).keep fun g hg => ⟨hk g hg, rfl⟩⟩, hp⟩
  | map es => exact h
  | iter es left cur => exact IterAt.keep h (fun g hg => ⟨hk g hg, rfl⟩) rfl
  | siter s pos => exact h
  | tcells e xs =>
    obtain ⟨⟨c, e', g1, g2, g3, g4, g5⟩, hsh⟩ := h
    rw [yce] at g3 g4 g5 hsh
    exact ⟨⟨c, e', g1, g2, by simpa using g3, fun y hy => by rw [← yfd σ]; exact g4 _ (List.mem_map_of_mem hy), fun j y u hy hu => (Rel.unren hl (g5 j (yen σ y) u (by simp [hy]) hu)).keep fun g hg => ⟨hk g hg, rfl⟩⟩, by simpa using hsh⟩
  | tvec e xs =>
    obtain ⟨⟨c, e', g1, g2, g3, g4, g5⟩, hp, hsh⟩ := h
    exact ⟨⟨c, e', g1, g2, g3, g4, fun j y u hy hu => ((g5 j y u hy hu).relive fun id b n _ hm => by rw [ybn.ment (hp y (List.mem_of_getElem? hy))] at hm; cases hm).keep fun g hg => ⟨hk g hg, rfl⟩⟩, hp, hsh⟩
  | mcells xs =>
    obtain ⟨c, e, g1, g2, g3, g4, g5⟩ := h
    rw [yce] at g3 g4 g5
    refine ⟨c, e, g1, g2, by simpa using g3, fun y hy => by rw [← yfd σ]; exact g4 _ (List.mem_map_of_mem hy), fun j y u hy hu => ?_⟩
    exact (Rel.unren hl (g5 j (yen σ y) u (by simp [hy]) hu)).keep fun g hg => ⟨hk g hg, rfl⟩
theorem yeg.ren {ok ok' : Nat → Prop} {w : World} {lv lv1 : Live} {σ : Nat → Nat} {ids : List Nat} {b n : Nat} {x : LObj} (hl : ∀ id b n, id ∈ ids → lv (σ id) = some (b, n) → lv1 id = some (b, n)) (ho : onlyO ids x = true) (hk : ∀ g, ok g → ok' g) (h : yeg ok lv1 w b n x) : yeg ok' lv w b n (renO σ x) := by
  cases x with
  | cells xs =>
    obtain ⟨c, e, g1, g2, g3, g4, g5⟩ := h
    refine ⟨c, e, g1, g2, by rw [yce]; simpa using g3, fun y hy => ?_, fun j y u hy hu => ?_⟩
    · rw [yce] at hy
      obtain ⟨z, hz, rfl⟩ := List.mem_map.1 hy
      rw [yfd]; exact g4 z hz
    · exact (Rel.ren.rows (vs := c.toList) hl ho (fun j y u hy hu => g5 j y u hy (by simpa using hu)) j y u hy (by simpa using hu)).keep fun g hg => ⟨hk g hg, rfl⟩
  | vec xs =>
    obtain ⟨⟨c, e, g1, g2, g3, g4, g5⟩, hp⟩ := h
    exact ⟨⟨c, e, g1, g2, g3, g4, fun j y u hy hu => ((g5 j y u hy hu).relive fun id b n _ hm => by rw [ybn.ment (hp y (List.mem_of_getElem? hy))] at hm; cases hm).keep fun g hg => ⟨hk g hg, rfl⟩⟩, hp⟩
  | map es => exact h
  | iter es left cur => exact IterAt.keep h (fun g hg => ⟨hk g hg, rfl⟩) rfl
  | siter s pos => exact h
  | tcells e xs =>
    obtain ⟨⟨c, e', g1, g2, g3, g4, g5⟩, hsh⟩ := h
    refine ⟨⟨c, e', g1, g2, by rw [yce]; simpa using g3, fun y hy => ?_, fun j y u hy hu => ?_⟩, by rw [yce]; simpa using hsh⟩
    · rw [yce] at hy
      obtain ⟨z, hz, rfl⟩ := List.mem_map.1 hy
      rw [yfd]; exact g4 z hz
    · exact (Rel.ren.rows (vs := c.toList) hl ho (fun j y u hy hu => g5 j y u hy (by simpa using hu)) j y u hy (by simpa using hu)).keep fun g hg => ⟨hk g hg, rfl⟩
  | tvec e xs =>
    obtain ⟨⟨c, e', g1, g2, g3, g4, g5⟩, hp, hsh⟩ := h
    exact ⟨⟨c, e', g1, g2, g3, g4, fun j y u hy hu => ((g5 j y u hy hu).relive fun id b n _ hm => by rw [ybn.ment (hp y (List.mem_of_getElem? hy))] at hm; cases hm).keep fun g hg => ⟨hk g hg, rfl⟩⟩, hp, hsh⟩
  | mcells xs =>
    obtain ⟨c, e, g1, g2, g3, g4, g5⟩ := h
    refine ⟨c, e, g1, g2, by rw [yce]; simpa using g3, fun y hy => ?_, fun j y u hy hu => ?_⟩
    · rw [yce] at hy
      obtain ⟨z, hz, rfl⟩ := List.mem_map.1 hy
      rw [yfd]; exact g4 z hz
    · exact (Rel.ren.rows (vs := c.toList) hl ho (fun j y u hy hu => g5 j y u hy (by simpa using hu)) j y u hy (by simpa using hu)).keep fun g hg => ⟨hk g hg, rfl⟩
theorem renO_isC (σ : Nat → Nat) (x : LObj) : isC (renO σ x) = isC x := by cases x <;> rfl
theorem renO_nil {σ : Nat → Nat} {x : LObj} (h : renO σ x = .vec [] ∨ ∃ e, renO σ x = .tvec e []) : x = .vec [] ∨ ∃ e, x = .tvec e [] := by
  cases x <;> simp_all [renO]

def Kept (σ : Nat → Nat) (ids : List Nat) (hm' : Nat → Option LObj) (y : AV) : Prop := (∀ i ∈ ids, ment (σ i) y = false) ∨ ∃ i ∈ ids, ∃ off o, y = .lp (σ i) off ∧ hm' i = some o ∧ isC o = true

set_option maxHeartbeats 4000000
section
variable {P : Program} {N : Nat}
theorem callM_loud {o : Oper} {g : Operand} {args : List Operand} {ats : Array TypeId} {f : FuncId} {caps xs args0 : List AV} {hm hm' : Nat → Option LObj} {r : AV} {σ : Nat → Nat} {ids : List Nat} {d : Nat} {s s2 : SS}
    (ho : o.op = .call { callee := .value g, args := args.toArray, argTypes := ats }) (hd : o.dst = some d) (hdN : d < N) (hg : evF s.t g = some (.fn f caps)) (hx : evL (evF s.t) args = some xs) (hargs : xs ++ caps = args0.map (yen σ)) (hc : ConM P f args0 hm r hm')
    (hinj : ∀ i ∈ ids, ∀ j ∈ ids, σ i = σ j → i = j) (hdom : ∀ id, (hm id).isSome → id ∈ ids) (hdom' : ∀ id, (hm' id).isSome → id ∈ ids) (hmem : ∀ id o, hm id = some o → s.h (σ id) = some (renO σ o)) (hr : yfq ids r = true) (hro : ∀ id o, hm' id = some o → onlyO ids o = true)
    (ht : ∀ x y, s2.t x = some y → (x = d ∧ y = yen σ r) ∨ (x ≠ d ∧ ((y = .any ∧ ∃ z, s.t x = some z) ∨ (s.t x = some y ∧ Kept σ ids hm' y))))
    (hh1 : ∀ i ∈ ids, s2.h (σ i) = (hm' i).map (renO σ)) (hh2 : ∀ j ob', (∀ i ∈ ids, σ i ≠ j) → s2.h j = some ob' → (∀ i ∈ ids, yel (σ i) ob' = false) ∧ ∃ ob, s.h j = some ob ∧ ForgO ob ob') : LoudAt P N o s (· = s2) := by
  intro B ok0 lv a w hs Q
  have hfr := hs.eval hg
  have har := evL_rel (a := a) args xs (fun x y _ hxy => hs.eval hxy) hx
  generalize hv : a.eval g = v at hfr
  cases hfr with
  | fn vs hl hrc =>
  have hrun : (execOp a.eval o).run P w = .ok (.enter f (args.map a.eval ++ vs).toArray) w := by
    unfold execOp
    simp only [ho, resolve, Deferred.ofValue, hv, Sem.run_bind, Sem.run_pure, Result.andThen_ok, invoke]
    rw [run_callFunc hc.1]
    simp
  let lv1 : Live := fun id => if id ∈ ids ∧ (hm id).isSome then lv (σ id) else none
  have hl1 : ∀ id b n, lv1 id = some (b, n) → id ∈ ids ∧ (hm id).isSome ∧ lv (σ id) = some (b, n) := by
    intro id b n hb
    simp only [lv1] at hb
    split at hb
    · rename_i h; exact ⟨h.1, h.2, hb⟩
    · cases hb
  have hl2 : ∀ id b n, lv1 id = some (b, n) → lv (σ id) = some (b, n) := fun id b n h => (hl1 id b n h).2.2
  have hmine : ∀ b, lentOf lv1 b → B.mine b ∧ b < w.heap.size ∧ ∃ i ∈ ids, ∃ n, lv (σ i) = some (some b, n) := by
    rintro b ⟨id, n, hb⟩
    obtain ⟨h1, h2, h3⟩ := hl1 id _ n hb
    obtain ⟨_, _, h4, h5, _⟩ := hs.inv.lvat h3
    exact ⟨h4, h5, id, h1, n, h3⟩
  have hok1 : ∀ g, ybh B ok0 lv w g → ybh (ydf w lv1) (ybh B ok0 lv w) lv1 w g := fun g hg => ⟨.inl hg, hg.2.1, fun id b n hb => hg.2.2 (σ id) b n (hl2 id _ n hb)⟩
  have hinv : Inv (ydf w lv1) (ybh B ok0 lv w) hm lv1 w := by
    refine ⟨⟨rfl, rfl, rfl, Nat.le_refl _, fun _ _ _ => rfl, hs.inv.base.glob, hs.inv.base.glob.size, fun k hk => hs.inv.base.mineG (hmine k hk).1, fun l h => by cases h⟩, fun g hg => hg.2.1, fun id hid => by simp [lv1, hid], fun i j b n m h1 h2 => ?_, fun id x hx => ?_⟩
    · obtain ⟨q1, _, q2⟩ := hl1 _ _ _ h1
      obtain ⟨r1, _, r2⟩ := hl1 _ _ _ h2
      exact hinj i q1 j r1 (hs.inv.inj _ _ b n m q2 r2)
    · obtain ⟨b, n, h1, h2⟩ := hs.inv.obj (σ id) _ (hmem id x hx)
      have hlv : lv1 id = some (b, n) := by simp [lv1, hdom id (by simp [hx]), hx, h1]
      refine ⟨b, n, hlv, ?_⟩
      cases b with
      | none => exact renO_nil h2
      | some b => exact ⟨.inl ⟨id, n, hlv⟩, h2.2.1, yeg.unren hl2 hok1 h2.2.2⟩
  have hall : ybp (ybh (ydf w lv1) (ybh B ok0 lv w) lv1 w) w lv1 args0 (args.map a.eval ++ vs) := by
    have hlen : (args.map a.eval ++ vs).length = args0.length := by
      have := congrArg List.length hargs
      simp only [List.length_append, List.length_map] at this ⊢
      have := har.1
      simp at this
      omega
    refine ⟨hlen, fun i x u hx hu => ?_⟩
    have hxi : (xs ++ caps)[i]? = some (yen σ x) := by rw [hargs]; simp [hx]
    have hrel : Rel (ybh B ok0 lv w) w lv (yen σ x) u := by
      by_cases hlt : i < xs.length
      · rw [List.getElem?_append_left hlt] at hxi
        rw [List.getElem?_append_left (by rw [har.1]; exact hlt)] at hu
        exact har.2 i _ u hxi hu
      · rw [List.getElem?_append_right (by omega)] at hxi
        rw [List.getElem?_append_right (by rw [har.1]; omega), har.1] at hu
        exact hrc _ _ u hxi hu
    exact (Rel.unren hl2 hrel).keep fun g hg => ⟨hok1 g hg, rfl⟩
  unfold Oper.wp
  rw [hrun]
  refine (hc.2.2 (ybh B ok0 lv w) lv1 w (args.map a.eval ++ vs) hinv hall).mono fun e w' ⟨u, lv3, he, hu, hi3, hpin⟩ => ?_
  subst he
  simp only [hd]
  have hb3 := hi3.base
  -- the blocks that are not lent stay
  have hstay : ∀ k, k < w.heap.size → (∀ i ∈ ids, ∀ n, lv (σ i) ≠ some (some k, n)) → w'.heap[k]? = w.heap[k]? := by
    intro k hk hn
    exact hb3.block k hk fun hlent => by
      obtain ⟨_, _, i, hi, n, hn'⟩ := hmine k hlent
      exact hn i hi n hn'
  have hsz : w.heap.size ≤ w'.heap.size := hb3.size
  have hmine3 : ∀ id b n, lv3 id = some (some b, n) → B.mine b ∧ b < w'.heap.size ∧ (w.heap.size ≤ b ∨ ∃ i ∈ ids, ∃ n, lv (σ i) = some (some b, n)) := by
    intro id b n hb
    obtain ⟨_, _, q1, q2, _⟩ := hi3.lvat hb
    rcases q1 with q1 | q1
    · have := hmine b q1
      exact ⟨this.1, q2, .inr this.2.2⟩
    · exact ⟨.inr (Nat.le_trans hs.inv.base.size q1), q2, .inl q1⟩
  have hid3 : ∀ id b n, lv3 id = some (b, n) → id ∈ ids := fun id b n hb => by
    cases hq : hm' id with
    | none => rw [hi3.dom id hq] at hb; cases hb
    | some o => exact hdom' id (by simp [hq])
  let find : Nat → Option Nat := fun j => ids.find? fun i => σ i == j
  have hf1 : ∀ j i, find j = some i → i ∈ ids ∧ σ i = j := fun j i h => ⟨List.mem_of_find?_eq_some h, by simpa using List.find?_some h⟩
  have hf2 : ∀ i ∈ ids, find (σ i) = some i := fun i hi => by
    cases hq : find (σ i) with
    | none =>
      have := List.find?_eq_none.1 hq i hi
      simp at this
    | some k => obtain ⟨h1, h2⟩ := hf1 _ _ hq; rw [hinj k h1 i hi h2]
  have hf3 : ∀ j, find j = none → ∀ i ∈ ids, σ i ≠ j := fun j h i hi e => by
    have := List.find?_eq_none.1 h i hi
    simp [e] at this
  let lv2 : Live := fun j => match find j with
    | some i => lv3 i
    | none => if (s2.h j).isSome then lv j else none
  have hlv2a : ∀ i ∈ ids, lv2 (σ i) = lv3 i := fun i hi => by simp only [lv2, hf2 i hi]
  have hlv2b : ∀ j, (∀ i ∈ ids, σ i ≠ j) → ∀ b n, lv2 j = some (b, n) → lv j = some (b, n) ∧ (s2.h j).isSome := by
    intro j hj b n hb
    have hn : find j = none := by
      cases hq : find j with
      | none => rfl
      | some i => obtain ⟨h1, h2⟩ := hf1 _ _ hq; exact absurd h2 (hj i h1)
    simp only [lv2, hn] at hb
    split at hb
    · rename_i h; exact ⟨hb, h⟩
    · cases hb
  have hcase : ∀ j, (∃ i ∈ ids, σ i = j) ∨ ∀ i ∈ ids, σ i ≠ j := fun j => by
    cases hq : find j with
    | none => exact .inr (hf3 j hq)
    | some i => obtain ⟨h1, h2⟩ := hf1 _ _ hq; exact .inl ⟨i, h1, h2⟩
  have hok2 : ∀ g, ybh B ok0 lv w g → ybh B ok0 lv2 w' g ∧ w'.heap[g]? = w.heap[g]? := by
    intro g hg
    refine ⟨⟨hg.1, Nat.lt_of_lt_of_le hg.2.1 hsz, fun j b n hb => ?_⟩, hstay g hg.2.1 fun i _ n hn => hg.2.2 _ _ n hn rfl⟩
    rcases hcase j with ⟨i, hi, rfl⟩ | hj
    · rw [hlv2a i hi] at hb
      rcases (hmine3 i b n hb).2.2 with h | ⟨i', _, n', h⟩
      · have := hg.2.1; omega
      · exact hg.2.2 _ _ n' h
    · exact hg.2.2 j b n (hlv2b j hj _ n hb).1
  have hok3 : ∀ g, ybh (ydf w lv1) (ybh B ok0 lv w) lv3 w' g → ybh B ok0 lv2 w' g := by
    intro g hg
    refine ⟨?_, hg.2.1, fun j b n hb => ?_⟩
    · rcases hg.1 with h | h | h
      · exact h.1
      · exact .inr (hmine g h).1
      · exact .inr (.inr (Nat.le_trans hs.inv.base.size h))
    · rcases hcase j with ⟨i, hi, rfl⟩ | hj
      · rw [hlv2a i hi] at hb
        exact hg.2.2 i b n hb
      · obtain ⟨hb', _⟩ := hlv2b j hj _ n hb
        have hlt := hs.inv.lvlt hb'
        rintro rfl
        rcases hg.1 with h | h | h
        · exact h.2.2 j b n hb' rfl
        · obtain ⟨_, _, i, hi, n', hn'⟩ := hmine b h
          exact hj i hi (hs.inv.inj _ _ b n' n hn' hb')
        · simp only [ydf] at h; omega
  have hren : ∀ id b n, id ∈ ids → lv2 (σ id) = some (b, n) → lv3 id = some (b, n) := fun id b n hi hb => by rwa [hlv2a id hi] at hb
  have hframe : ∀ (y : AV) (z : Value), (∀ i ∈ ids, ment (σ i) y = false) → Rel (ybh B ok0 lv w) w lv y z → Rel (ybh B ok0 lv2 w') w' lv2 y z := by
    intro y z hy hz
    refine (hz.relive fun j b n hb hm => ?_).keep hok2
    rcases hcase j with ⟨i, hi, rfl⟩ | hj
    · rw [hy i hi] at hm; cases hm
    · exact (hlv2b j hj b n hb).1
  refine ⟨s2, lv2, rfl, ⟨⟨?_, hs.inv.ok0lt, fun j hj => ?_, fun i j b n m h1 h2 => ?_, fun j x hx => ?_⟩, by simp [Act.put, hs.size], fun x y hy => ?_, hs.defers.same (fun g hg => (hstay g (Array.getElem?_eq_some_iff.1 hg).1 fun i hi n hn => (hs.inv.lvat hn).choose_spec.2.2.2.notDef hg).trans hg), hs.big, fun j b ws hN hj hcj hb => ?_⟩⟩
  · -- base
    refine ⟨hb3.os.trans hs.inv.base.os, hb3.tape.trans hs.inv.base.tape, hb3.output.trans hs.inv.base.output, Nat.le_trans hs.inv.base.size hsz, fun k hk hnl => ?_, hb3.glob, hs.inv.base.gsize, hs.inv.base.lentG, hs.inv.base.rdok⟩
    refine (hstay k (Nat.lt_of_lt_of_le hk hs.inv.base.size) fun i hi n hn => ?_).trans (hs.inv.base.block k hk hnl)
    obtain ⟨_, _, q1, _, _⟩ := hs.inv.lvat hn
    rcases q1 with q1 | q1
    · exact hnl q1
    · omega
  · -- dom
    rcases hcase j with ⟨i, hi, rfl⟩ | hj'
    · rw [hlv2a i hi]
      refine hi3.dom i ?_
      rw [hh1 i hi] at hj
      cases hq : hm' i with
      | none => rfl
      | some o => simp [hq] at hj
    · cases hq : lv2 j with
      | none => rfl
      | some q => obtain ⟨q1, q2⟩ := q; have := (hlv2b j hj' q1 q2 hq).2; simp [hj] at this
  · -- inj
    rcases hcase i with ⟨i', hi, rfl⟩ | hi <;> rcases hcase j with ⟨j', hj, rfl⟩ | hj
    · rw [hlv2a i' hi] at h1
      rw [hlv2a j' hj] at h2
      rw [hi3.inj i' j' b n m h1 h2]
    · rw [hlv2a i' hi] at h1
      have h2' := (hlv2b j hj _ m h2).1
      have := hs.inv.lvlt h2'
      rcases (hmine3 i' b n h1).2.2 with h | ⟨k, hk, n', h⟩
      · omega
      · exact absurd (hs.inv.inj _ _ b n' m h h2') (hj k hk)
    · rw [hlv2a j' hj] at h2
      have h1' := (hlv2b i hi _ n h1).1
      have := hs.inv.lvlt h1'
      rcases (hmine3 j' b m h2).2.2 with h | ⟨k, hk, n', h⟩
      · omega
      · exact absurd (hs.inv.inj _ _ b n' n h h1') (hi k hk)
    · exact hs.inv.inj i j b n m (hlv2b i hi _ n h1).1 (hlv2b j hj _ m h2).1
  · -- objects
    rcases hcase j with ⟨i, hi, rfl⟩ | hj
    · rw [hh1 i hi] at hx
      cases hq : hm' i with
      | none => simp [hq] at hx
      | some ob =>
        simp only [hq, Option.map_some, Option.some.injEq] at hx
        subst hx
        obtain ⟨b, n, q1, q2⟩ := hi3.obj i ob hq
        refine ⟨b, n, by rw [hlv2a i hi]; exact q1, ?_⟩
        cases b with
        | none =>
          simp only [OwnAt] at q2 ⊢
          rcases q2 with rfl | ⟨e, rfl⟩
          · exact .inl rfl
          · exact .inr ⟨e, rfl⟩
        | some b =>
          exact ⟨(hmine3 i b n q1).1, q2.2.1, yeg.ren hren (hro i ob hq) hok3 q2.2.2⟩
    · obtain ⟨hm1, ob, hob, hfo⟩ := hh2 j x hj hx
      obtain ⟨b, n, q1, q2⟩ := hs.inv.obj j ob hob
      have hlv2 : lv2 j = some (b, n) := by
        have hn : find j = none := by
          cases hq : find j with
          | none => rfl
          | some i => obtain ⟨h1, h2⟩ := hf1 _ _ hq; exact absurd h2 (hj i h1)
        simp [lv2, hn, hx, q1]
      refine ⟨b, n, hlv2, ?_⟩
      cases b with
      | none =>
        simp only [OwnAt] at q2 ⊢
        rcases hfo with rfl | ⟨_, _, rfl, _⟩ | ⟨_, _, _, rfl, _⟩
        · exact q2
        · simp at q2
        · simp at q2
      | some b =>
        obtain ⟨q3, q4, q5⟩ := q2
        have hbk : w'.heap[b]? = w.heap[b]? := hstay b q4 fun i hi n' hn' => hj i hi (hs.inv.inj _ _ b n' n hn' q1)
        refine ⟨q3, Nat.lt_of_lt_of_le q4 hsz, ?_⟩
        rcases hfo with rfl | ⟨zs, ys, rfl, rfl, hyl, hyz⟩ | ⟨te, zs, ys, rfl, rfl, hyl, hyz⟩
        · refine (q5.relive (lv' := lv2) fun k b' n' hb' hmk => ?_).keep hok2 hbk
          rcases hcase k with ⟨i, hi, rfl⟩ | hk
          · rw [hm1 i hi] at hmk; cases hmk
          · exact (hlv2b k hk b' n' hb').1
        · obtain ⟨c, e, g1, g2, g3, g4, g5⟩ := q5
          refine ⟨c, e, by rw [hbk]; exact g1, g2, by omega, fun y hy => ?_, fun k y z hy hz => ?_⟩
          · obtain ⟨k, hk⟩ := List.getElem?_of_mem hy
            obtain ⟨x, hx⟩ : ∃ x, zs[k]? = some x := ⟨_, List.getElem?_eq_getElem (by have := (List.getElem?_eq_some_iff.1 hk).1; omega)⟩
            rcases hyz k x y hx hk with rfl | rfl
            · exact g4 _ (List.mem_of_getElem? hx)
            · rfl
          · obtain ⟨x, hx⟩ : ∃ x, zs[k]? = some x := ⟨_, List.getElem?_eq_getElem (by have := (List.getElem?_eq_some_iff.1 hy).1; omega)⟩
            rcases hyz k x y hx hy with rfl | rfl
            · refine hframe _ z (fun i hi => ?_) (g5 k _ z hx hz)
              exact yeh hy (hm1 i hi)
            · exact .one _ ((g5 k x z hx hz).oneCell (g4 x (List.mem_of_getElem? hx)))
        · obtain ⟨⟨c, e, g1, g2, g3, g4, g5⟩, hsh⟩ := q5
          refine ⟨⟨c, e, by rw [hbk]; exact g1, g2, by omega, fun y hy => ?_, fun k y z hy hz => ?_⟩, by rw [hyl]; exact (shape_of_block hbk).trans hsh⟩
          · obtain ⟨k, hk⟩ := List.getElem?_of_mem hy
            obtain ⟨x, hx⟩ : ∃ x, zs[k]? = some x := ⟨_, List.getElem?_eq_getElem (by have := (List.getElem?_eq_some_iff.1 hk).1; omega)⟩
            rcases hyz k x y hx hk with rfl | rfl
            · exact g4 _ (List.mem_of_getElem? hx)
            · rfl
          · obtain ⟨x, hx⟩ : ∃ x, zs[k]? = some x := ⟨_, List.getElem?_eq_getElem (by have := (List.getElem?_eq_some_iff.1 hy).1; omega)⟩
            rcases hyz k x y hx hy with rfl | rfl
            · refine hframe _ z (fun i hi => ?_) (g5 k _ z hx hz)
              exact yeh hy (hm1 i hi)
            · exact .one _ ((g5 k x z hx hz).oneCell (g4 x (List.mem_of_getElem? hx)))
  · -- frame
    rcases ht x y hy with ⟨rfl, rfl⟩ | ⟨hxd, hxy⟩
    · have hbig := hs.big
      refine ⟨.inl hdN, ?_⟩
      rw [yei, if_pos (Nat.lt_of_lt_of_le hdN hbig)]
      simp only [Act.put]
      rw [show (a.tmps.setIfInBounds x u).getD x undef = u by simp [Array.getD, hs.size, hdN]]
      exact (Rel.ren hren hr hu).keep fun g hg => ⟨hok3 g hg, rfl⟩
    · have hval : yei B (a.put (some d) u) x = yei B a x := by
        unfold yei
        split
        · simp only [Act.put, Array.getD_eq_getD_getElem?, Array.getElem?_setIfInBounds]
          rw [if_neg (by omega)]
        · rfl
      rw [hval]
      rcases hxy with ⟨rfl, z, hz⟩ | ⟨hz, hk⟩
      · exact ⟨(hs.frame x z hz).1, .any _⟩
      · refine ⟨(hs.frame x y hz).1, ?_⟩
        have hold := (hs.frame x y hz).2
        rcases hk with hk | ⟨i, hi, off, o', rfl, hci, hcc⟩
        · exact hframe y _ hk hold
        · cases hold with
          | lp _ h1 h2 =>
            refine .lp _ h1 fun b n hb => ?_
            rw [hlv2a i hi] at hb
            obtain ⟨b', n', n'', p1, p2⟩ := hpin i o' hci hcc
            rw [hb] at p2
            cases p2
            exact h2 b n' (hl2 i _ n' p1)
  · -- pins
    rcases hcase j with ⟨i, hi, rfl⟩ | hj'
    · rw [hh1 i hi] at hj
      cases hq : hm' i with
      | none => simp [hq] at hj
      | some ob =>
        simp only [hq, Option.map_some, Option.some.injEq] at hj
        subst hj
        rw [renO_isC] at hcj
        obtain ⟨b', n', n'', p1, p2⟩ := hpin i ob hq hcj
        obtain ⟨zs, hz, hzc⟩ := hc.2.1 i ob hq hcj
        obtain ⟨n, hn⟩ := hs.pin (σ i) b _ hN (hmem i _ hz) (by rw [renO_isC]; exact hzc) hb
        rw [hl2 i _ n' p1] at hn
        cases hn
        exact ⟨n'', by rw [hlv2a i hi]; exact p2⟩
    · obtain ⟨_, ob, hys, hfo⟩ := hh2 j _ hj' hj
      have hcc : isC ob = true := by
        rcases hfo with rfl | ⟨xs', ys', rfl, _, _⟩ | ⟨e, xs', ys', rfl, _, _⟩
        · exact hcj
        · rfl
        · rfl
      obtain ⟨n, hn⟩ := hs.pin j b ob hN hys hcc hb
      obtain ⟨b2, n2, q1, _⟩ := hs.inv.obj j _ hys
      rw [hn] at q1
      cases q1
      have hn' : find j = none := by
        cases hq : find j with
        | none => rfl
        | some i => obtain ⟨h1, h2⟩ := hf1 _ _ hq; exact absurd h2 (hj' i h1)
      exact ⟨n, by simp [lv2, hn', hj, hn]⟩
end
def ydz : List (Nat × Nat) → Nat → Nat
  | [], i => i
  | (k, j) :: sg, i => match Nat.beq i k with
    | true => j
    | false => ydz sg i
def ybt : List (Nat × Nat) → List Nat
  | [] => []
  | (k, _) :: sg => k :: ybt sg
def ycu : List (Nat × Nat) → List Nat
  | [] => []
  | (_, j) :: sg => j :: ycu sg
def memN (i : Nat) : List Nat → Bool
  | [] => false
  | k :: l => match Nat.beq i k with
    | true => true
    | false => memN i l
def yfh : List Nat → Bool
  | [] => true
  | k :: l => match memN k l with
    | true => false
    | false => yfh l
theorem memN_iff {i : Nat} : ∀ {l : List Nat}, memN i l = true ↔ i ∈ l
  | [] => by simp [memN]
  | k :: l => by
    simp only [memN, List.mem_cons]
    cases h : Nat.beq i k with
    | true => simp [Nat.eq_of_beq_eq_true h]
    | false =>
      have : i ≠ k := fun e => by subst e; simp at h
      simp [this, memN_iff (l := l)]
theorem slook_val {sg : List (Nat × Nat)} {i : Nat} (h : i ∈ ybt sg) : ydz sg i ∈ ycu sg := by
  induction sg with
  | nil => simp [ybt] at h
  | cons q sg ih =>
    obtain ⟨k, j⟩ := q
    simp only [ydz, ycu]
    cases hb : Nat.beq i k with
    | true => simp
    | false =>
      have hne : i ≠ k := fun e => by subst e; simp at hb
      simp only [ybt, List.mem_cons, hne, false_or] at h
      simp [ih h]
theorem slook_inj {sg : List (Nat × Nat)} (h : yfh (ycu sg) = true) : ∀ i ∈ ybt sg, ∀ j ∈ ybt sg, ydz sg i = ydz sg j → i = j := by
  induction sg with
  | nil => intro i hi; simp [ybt] at hi
  | cons q sg ih =>
    obtain ⟨k, v⟩ := q
    simp only [ycu, yfh] at h
    cases hv : memN v (ycu sg) with
    | true => simp [hv] at h
    | false =>
      simp only [hv] at h
      have hnv : v ∉ ycu sg := fun hm => by rw [memN_iff.2 hm] at hv; cases hv
      intro i hi j hj he
      simp only [ydz] at he
      cases hik : Nat.beq i k <;> cases hjk : Nat.beq j k <;> simp only [hik, hjk] at he
      · have h1 : i ≠ k := fun e => by subst e; simp at hik
        have h2 : j ≠ k := fun e => by subst e; simp at hjk
        simp only [ybt, List.mem_cons, h1, h2, false_or] at hi hj
        exact ih h i hi j hj he
      · have h1 : i ≠ k := fun e => by subst e; simp at hik
        simp only [ybt, List.mem_cons, h1, false_or] at hi
        exact absurd (he ▸ slook_val hi) hnv
      · have h2 : j ≠ k := fun e => by subst e; simp at hjk
        simp only [ybt, List.mem_cons, h2, false_or] at hj
        exact absurd (he ▸ slook_val hj) hnv
      · rw [Nat.eq_of_beq_eq_true hik, Nat.eq_of_beq_eq_true hjk]
theorem slook_keys {sg : List (Nat × Nat)} {j : Nat} (h : j ∈ ycu sg) (hk : yfh (ybt sg) = true) : ∃ i ∈ ybt sg, ydz sg i = j := by
  induction sg with
  | nil => simp [ycu] at h
  | cons q sg ih =>
    obtain ⟨k, v⟩ := q
    simp only [ybt, yfh] at hk
    cases hm : memN k (ybt sg) with
    | true => simp [hm] at hk
    | false =>
      simp only [hm] at hk
      simp only [ycu, List.mem_cons] at h
      rcases h with rfl | h
      · exact ⟨k, by simp [ybt], by simp [ydz]⟩
      · obtain ⟨i, hi, he⟩ := ih h hk
        refine ⟨i, by simp [ybt, hi], ?_⟩
        have : i ≠ k := fun e => by subst e; rw [memN_iff.2 hi] at hm; cases hm
        simp only [ydz, yeb this]
        exact he
def domIn (ids : List Nat) : List (Nat × Option LObj) → Bool
  | [] => true
  | (k, _) :: h => memN k ids && domIn ids h
theorem domIn_spec {ids : List Nat} : ∀ {h : List (Nat × Option LObj)}, domIn ids h = true → ∀ id, (yal h id).isSome → id ∈ ids
  | [], _, id, hs => by simp [yal] at hs
  | (k, o) :: h, hd, id, hs => by
    simp only [domIn, Bool.and_eq_true] at hd
    simp only [yal] at hs
    cases hb : Nat.beq id k with
    | true => rw [Nat.eq_of_beq_eq_true hb]; exact memN_iff.1 hd.1
    | false => simp only [hb] at hs; exact domIn_spec hd.2 id hs
def renH (sg : List (Nat × Nat)) : List (Nat × Option LObj) → List (Nat × Option LObj)
  | [] => []
  | (k, some o) :: h => (ydz sg k, some (renO (ydz sg) o)) :: renH sg h
  | (k, none) :: h => (ydz sg k, none) :: renH sg h
theorem renH_mem {sg : List (Nat × Nat)} {h : List (Nat × Option LObj)} : ∀ {hs : List (Nat × Option LObj)}, subH h (renH sg hs) → ∀ id o, yal hs id = some o → yal h (ydz sg id) = some (renO (ydz sg) o)
  | [], _, id, o, hl => by simp [yal] at hl
  | (k, x) :: hs, hsub, id, o, hl => by
    simp only [yal] at hl
    cases hb : Nat.beq id k with
    | true =>
      simp only [hb] at hl
      subst hl
      rw [Nat.eq_of_beq_eq_true hb]
      simp only [renH, subH] at hsub
      exact hsub.1 _ rfl
    | false =>
      simp only [hb] at hl
      cases x with
      | none => simp only [renH, subH] at hsub; exact renH_mem hsub.2 id o hl
      | some x => simp only [renH, subH] at hsub; exact renH_mem hsub.2 id o hl
def onlyHs (ids : List Nat) : List (Nat × Option LObj) → Bool
  | [] => true
  | (_, some o) :: h => onlyO ids o && onlyHs ids h
  | (_, none) :: h => onlyHs ids h
theorem onlyHs_spec {ids : List Nat} : ∀ {h : List (Nat × Option LObj)}, onlyHs ids h = true → ∀ id o, yal h id = some o → onlyO ids o = true
  | [], _, id, o, hl => by simp [yal] at hl
  | (k, x) :: h, ho, id, o, hl => by
    simp only [yal] at hl
    cases hb : Nat.beq id k with
    | true =>
      simp only [hb] at hl
      subst hl
      simp only [onlyHs, Bool.and_eq_true] at ho
      exact ho.1
    | false =>
      simp only [hb] at hl
      cases x with
      | none => exact onlyHs_spec (by simpa [onlyHs] using ho) id o hl
      | some x => simp only [onlyHs, Bool.and_eq_true] at ho; exact onlyHs_spec ho.2 id o hl
def backH (sg : List (Nat × Nat)) (hs' : List (Nat × Option LObj)) : List (Nat × Nat) → List (Nat × Option LObj)
  | [] => []
  | (k, j) :: r => (j, match yal hs' k with
    | some o => some (renO (ydz sg) o)
    | none => none) :: backH sg hs' r
theorem backH_at {sg : List (Nat × Nat)} {hs' h : List (Nat × Option LObj)} : ∀ {l : List (Nat × Nat)}, yfh (ybt l) = true → yfh (ycu l) = true → ∀ i ∈ ybt l, yal (backH sg hs' l ++ h) (ydz l i) = (yal hs' i).map (renO (ydz sg))
  | [], _, _, i, hi => by simp [ybt] at hi
  | (k, j) :: l, h1, h2, i, hi => by
    simp only [ybt, yfh] at h1
    cases hm : memN k (ybt l) with
    | true => simp [hm] at h1
    | false =>
    simp only [hm] at h1
    simp only [ycu, yfh] at h2
    cases hm2 : memN j (ycu l) with
    | true => simp [hm2] at h2
    | false =>
    simp only [hm2] at h2
    simp only [ydz]
    cases hb : Nat.beq i k with
    | true =>
      have e := Nat.eq_of_beq_eq_true hb
      subst e
      simp only [backH, List.cons_append, yal, Nat.beq_refl]
      cases yal hs' i <;> rfl
    | false =>
      have hne : i ≠ k := fun e => by subst e; simp at hb
      simp only [ybt, List.mem_cons, hne, false_or] at hi
      have hv := slook_val hi
      have hnj : ydz l i ≠ j := fun e => by rw [e] at hv; rw [memN_iff.2 hv] at hm2; cases hm2
      simp only [backH, List.cons_append, yal, yeb hnj]
      exact backH_at h1 h2 i hi
theorem backH_other {sg : List (Nat × Nat)} {hs' h : List (Nat × Option LObj)} : ∀ {l : List (Nat × Nat)} {j : Nat}, j ∉ ycu l → yal (backH sg hs' l ++ h) j = yal h j
  | [], j, _ => rfl
  | (k, v) :: l, j, hj => by
    simp only [ycu, List.mem_cons, not_or] at hj
    simp only [backH, List.cons_append, yal, yeb hj.1]
    exact backH_other hj.2
def forgHs : List Nat → List (Nat × Option LObj) → Option (List (Nat × Option LObj))
  | [], h => some h
  | i :: l, h => match forgH i h with
    | some h' => forgHs l h'
    | none => none
theorem ForgO.trans {a b c : LObj} (h1 : ForgO a b) (h2 : ForgO b c) : ForgO a c := by
  rcases h1 with rfl | ⟨xs, ys, rfl, rfl, hl, hxy⟩ | ⟨te, xs, ys, rfl, rfl, hl, hxy⟩
  · exact h2
  · rcases h2 with rfl | ⟨xs', zs, e, rfl, hl', hyz⟩ | ⟨_, _, _, e, _⟩
    · exact .inr (.inl ⟨xs, ys, rfl, rfl, hl, hxy⟩)
    · cases e
      refine .inr (.inl ⟨xs, zs, rfl, rfl, by omega, fun j x z hx hz => ?_⟩)
      obtain ⟨y, hy⟩ : ∃ y, ys[j]? = some y := ⟨_, List.getElem?_eq_getElem (by have := (List.getElem?_eq_some_iff.1 hx).1; omega)⟩
      rcases hyz j y z hy hz with rfl | rfl
      · exact hxy j x _ hx hy
      · exact .inr rfl
    · cases e
  · rcases h2 with rfl | ⟨_, _, e, _⟩ | ⟨te', xs', zs, e, rfl, hl', hyz⟩
    · exact .inr (.inr ⟨te, xs, ys, rfl, rfl, hl, hxy⟩)
    · cases e
    · cases e
      refine .inr (.inr ⟨te, xs, zs, rfl, rfl, by omega, fun j x z hx hz => ?_⟩)
      obtain ⟨y, hy⟩ : ∃ y, ys[j]? = some y := ⟨_, List.getElem?_eq_getElem (by have := (List.getElem?_eq_some_iff.1 hx).1; omega)⟩
      rcases hyz j y z hy hz with rfl | rfl
      · exact hxy j x _ hx hy
      · exact .inr rfl
theorem mentL_ex {i : Nat} : ∀ {zs : List AV}, ment.mentL i zs = true → ∃ (j : Nat) (z : AV), zs[j]? = some z ∧ ment i z = true
  | [], h => by simp [ment.mentL] at h
  | z :: zs, h => by
    simp only [ment.mentL, Bool.or_eq_true] at h
    rcases h with h | h
    · exact ⟨0, z, rfl, h⟩
    · obtain ⟨j, y, h1, h2⟩ := mentL_ex h
      exact ⟨j + 1, y, by simpa using h1, h2⟩
theorem mentL_forg {i : Nat} {xs ys : List AV} (hl : ys.length = xs.length) (hxy : ∀ (j : Nat) (x y : AV), xs[j]? = some x → ys[j]? = some y → y = x ∨ y = .one) (hm : ment.mentL i xs = false) : ment.mentL i ys = false := by
  cases hq : ment.mentL i ys with
  | false => rfl
  | true =>
    exfalso
    obtain ⟨j, y, hy, hmy⟩ := mentL_ex hq
    obtain ⟨x, hx⟩ : ∃ x, xs[j]? = some x := ⟨_, List.getElem?_eq_getElem (by have := (List.getElem?_eq_some_iff.1 hy).1; omega)⟩
    rcases hxy j x y hx hy with rfl | rfl
    · rw [yeh hx hm] at hmy; cases hmy
    · simp [ment] at hmy
theorem forgO_ment {a b : LObj} {i : Nat} (h : ForgO a b) (hm : yel i a = false) : yel i b = false := by
  rcases h with rfl | ⟨xs, ys, rfl, rfl, hl, hxy⟩ | ⟨te, xs, ys, rfl, rfl, hl, hxy⟩
  · exact hm
  · exact mentL_forg hl hxy hm
  · exact mentL_forg hl hxy hm
theorem forgHs_spec : ∀ {l : List Nat} {h h' : List (Nat × Option LObj)}, forgHs l h = some h' → ∀ j ob', yal h' j = some ob' → (∀ i ∈ l, yel i ob' = false) ∧ ∃ ob, yal h j = some ob ∧ ForgO ob ob'
  | [], h, h', he, j, ob', hj => by simp only [forgHs, Option.some.injEq] at he; subst he; exact ⟨by simp, ob', hj, .inl rfl⟩
  | i :: l, h, h', he, j, ob', hj => by
    simp only [forgHs] at he
    split at he
    · rename_i h1 hh
      obtain ⟨g1, ob1, g2, g3⟩ := forgHs_spec he j ob' hj
      obtain ⟨g4, ob, g5, g6⟩ := forgH_spec hh j ob1 g2
      refine ⟨fun k hk => ?_, ob, g5, g6.trans g3⟩
      rcases List.mem_cons.1 hk with rfl | hk
      · exact forgO_ment g3 g4
      · exact g1 k hk
    · cases he
def mentAny (l : List Nat) (y : AV) : Bool := match l with
  | [] => false
  | i :: l => match ment i y with
    | true => true
    | false => mentAny l y
theorem mentAny_spec : ∀ {l : List Nat} {y : AV}, mentAny l y = false → ∀ i ∈ l, ment i y = false
  | [], y, _, i, hi => by simp at hi
  | k :: l, y, h, i, hi => by
    simp only [mentAny] at h
    cases hk : ment k y with
    | true => simp [hk] at h
    | false =>
      simp only [hk] at h
      rcases List.mem_cons.1 hi with rfl | hi
      · exact hk
      · exact mentAny_spec h i hi
def isCells : Option LObj → Bool
  | some o => isC o
  | none => false
def fixedN (hs' : List (Nat × Option LObj)) (j : Nat) : List (Nat × Nat) → Bool
  | [] => false
  | (k, v) :: l => match Nat.beq v j with
    | true => isCells (yal hs' k)
    | false => fixedN hs' j l
theorem fixedN_spec {hs' : List (Nat × Option LObj)} {j : Nat} : ∀ {l : List (Nat × Nat)}, yfh (ybt l) = true → fixedN hs' j l = true → ∃ i ∈ ybt l, ydz l i = j ∧ ∃ o, yal hs' i = some o ∧ isC o = true
  | [], _, h => by simp [fixedN] at h
  | (k, v) :: l, hn, h => by
    simp only [ybt, yfh] at hn
    cases hm : memN k (ybt l) with
    | true => simp [hm] at hn
    | false =>
    simp only [hm] at hn
    simp only [fixedN] at h
    cases hb : Nat.beq v j with
    | true =>
      simp only [hb] at h
      refine ⟨k, by simp [ybt], by simp [ydz, Nat.eq_of_beq_eq_true hb], ?_⟩
      cases hq : yal hs' k with
      | none => simp [hq, isCells] at h
      | some o => exact ⟨o, rfl, by simpa [hq, isCells] using h⟩
    | false =>
      simp only [hb] at h
      obtain ⟨i, h1, h2, h3⟩ := fixedN_spec hn h
      refine ⟨i, by simp [ybt, h1], ?_, h3⟩
      have : i ≠ k := fun e => by subst e; rw [memN_iff.2 h1] at hm; cases hm
      simp only [ydz, yeb this]
      exact h2
def keepB (sg : List (Nat × Nat)) (hs' : List (Nat × Option LObj)) (y : AV) : Bool := match mentAny (ycu sg) y with
  | false => true
  | true => match y with
    | .lp j _ => fixedN hs' j sg
    | _ => false
def forgTM (sg : List (Nat × Nat)) (hs' : List (Nat × Option LObj)) : List (Nat × AV) → List (Nat × AV)
  | [] => []
  | (s, x) :: t => match keepB sg hs' x with
    | true => (s, x) :: forgTM sg hs' t
    | false => (s, .any) :: forgTM sg hs' t
theorem keepB_spec {sg : List (Nat × Nat)} {hs' : List (Nat × Option LObj)} {y : AV} (hn : yfh (ybt sg) = true) (h : keepB sg hs' y = true) : Kept (ydz sg) (ybt sg) (yal hs') y := by
  unfold keepB at h
  cases hm : mentAny (ycu sg) y with
  | false => exact .inl fun i hi => mentAny_spec hm _ (slook_val hi)
  | true =>
    simp only [hm] at h
    split at h
    · rename_i j off
      obtain ⟨i, h1, h2, o, h3, h4⟩ := fixedN_spec hn h
      exact .inr ⟨i, h1, off, o, by rw [h2], h3, h4⟩
    · cases h
theorem forgTM_spec {sg : List (Nat × Nat)} {hs' : List (Nat × Option LObj)} : ∀ {t : List (Nat × AV)} {x : Nat} {y : AV}, ybb (forgTM sg hs' t) x = some y → (y = .any ∧ ∃ z, ybb t x = some z) ∨ (ybb t x = some y ∧ keepB sg hs' y = true)
  | [], x, y, h => by simp [forgTM, ybb] at h
  | (s, z) :: t, x, y, h => by
    simp only [forgTM] at h
    cases hk : keepB sg hs' z with
    | true =>
      simp only [hk, ybb] at h ⊢
      cases hb : Nat.beq x s with
      | true => simp only [hb, Option.some.injEq] at h ⊢; subst h; exact .inr ⟨rfl, hk⟩
      | false => simp only [hb] at h ⊢; exact forgTM_spec h
    | false =>
      simp only [hk, ybb] at h ⊢
      cases hb : Nat.beq x s with
      | true => simp only [hb, Option.some.injEq] at h ⊢; subst h; exact .inl ⟨rfl, z, rfl⟩
      | false => simp only [hb] at h ⊢; exact forgTM_spec h
section
variable {P : Program} {T : Nat → Option Ty} {N : Nat} {ops : Array Oper} {lf : Oper → Bool} {Q : SS → Prop} {t : List (Nat × AV)} {h : List (Nat × Option LObj)} {rest : List Oper} {d : Nat} {ty : TypeId} {pos : String} {af : Array Edge} {gd : Option (Nat × Bool)} {r : AV}
def dropK (l : List Nat) : List (Nat × Option LObj) → List (Nat × Option LObj)
  | [] => []
  | (k, o) :: h => match memN k l with
    | true => dropK l h
    | false => (k, o) :: dropK l h
theorem dropK_at {l : List Nat} {j : Nat} (hj : j ∉ l) : ∀ h : List (Nat × Option LObj), yal (dropK l h) j = yal h j
  | [] => rfl
  | (k, o) :: h => by
    simp only [dropK]
    cases hm : memN k l with
    | true =>
      have hk : Nat.beq j k = false := yeb fun e => hj (e ▸ memN_iff.1 hm)
      simp only [yal, hk]
      exact dropK_at hj h
    | false =>
      simp only [yal]
      cases Nat.beq j k with
      | true => rfl
      | false => exact dropK_at hj h
theorem yex (sg : List (Nat × Nat)) {g : Operand} {args : List Operand} {ats : Array TypeId} {f : FuncId} {caps xs args0 : List AV} {hs hs' h' : List (Nat × Option LObj)} (hc : ConM P f args0 (yal hs) r (yal hs')) (hg : evF (ybb t) g = some (.fn f caps)) (hx : evL (evF (ybb t)) args = some xs) (hargs : xs ++ caps = args0.map (yen (ydz sg)))
    (hk : yfh (ybt sg) = true) (hv : yfh (ycu sg) = true) (hd1 : domIn (ybt sg) hs = true) (hd2 : domIn (ybt sg) hs' = true) (hsub : subH h (renH sg hs)) (hr : yfq (ybt sg) r = true) (ho : onlyHs (ybt sg) hs' = true) (hh : forgHs (ycu sg) (dropK (ycu sg) h) = some h')
    (hl : lf ⟨some d, .call { callee := .value g, args := args.toArray, argTypes := ats }, ty, pos, af, gd⟩ = true) (hw : yaz ops (ybb t) ⟨some d, .call { callee := .value g, args := args.toArray, argTypes := ats }, ty, pos, af, gd⟩ = some true) (hd : Nat.blt d N = true)
    (k : Lex P N ops lf Q rest (S ((d, yen (ydz sg) r) :: forgTM sg hs' t) (backH sg hs' sg ++ h'))) : Lex P N ops lf Q (⟨some d, .call { callee := .value g, args := args.toArray, argTypes := ats }, ty, pos, af, gd⟩ :: rest) (S t h) := by
  refine L_loud hl hw ?_ k
  refine callM_loud (σ := ydz sg) (ids := ybt sg) rfl rfl (by simpa using hd) hg hx hargs hc (slook_inj hv) (domIn_spec hd1) (domIn_spec hd2) (renH_mem hsub) hr (onlyHs_spec ho) (fun x y hy => ?_) (fun i hi => backH_at hk hv i hi) (fun j ob' hj hob => ?_)
  · simp only [S, ybb] at hy
    cases hb : Nat.beq x d with
    | true => simp only [hb, Option.some.injEq] at hy; exact .inl ⟨Nat.eq_of_beq_eq_true hb, hy.symm⟩
    | false =>
      simp only [hb] at hy
      refine .inr ⟨fun e => by subst e; simp at hb, ?_⟩
      rcases forgTM_spec hy with hq | ⟨h1, h2⟩
      · exact .inl hq
      · exact .inr ⟨h1, keepB_spec hk h2⟩
  · have hjv : j ∉ ycu sg := fun hm => by
      obtain ⟨i, h1, h2⟩ := slook_keys hm hk
      exact hj i h1 h2
    simp only [S, backH_other hjv] at hob
    obtain ⟨h1, h2⟩ := forgHs_spec hh j ob' hob
    rw [dropK_at hjv] at h2
    exact ⟨fun i hi => h1 _ (slook_val hi), h2⟩
end
end Go.Proofs.YtcpgpiabeimefaaDoor
