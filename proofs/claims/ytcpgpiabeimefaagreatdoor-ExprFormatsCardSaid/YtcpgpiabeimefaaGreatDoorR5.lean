/- Part 5 of the texts under ExprFormats,ExprBracketsEverything: joined, with what it needs alone. -/
import Derived.Maps.RangeRun
import Derived.Maps.Keyed
import Derived.Carry
import GoSem.Core.Utf8
import Derived.Laws.BytesArg
import Derived.Test.YtcpgpiabeimefaaGreatDoorR4
set_option linter.unusedVariables false
namespace Go.Proofs.YtcpgpiabeimefaaGreatDoor
open Go.RowKit Go.Maps

section
variable {P : Program} {T : Nat → Option Ty} {N : Nat} {ops : Array Oper} {lf : Oper → Bool} {Q : SS → Prop} {t : List (Nat × AV)} {h : List (Nat × Option LObj)} {rest : List Oper} {d : Nat} {op : Op} {ty : TypeId} {pos : String} {af : Array Edge} {gd : Option (Nat × Bool)} {r : AV}

inductive Found (z : Value) (es : List (Value × Value)) (key : Value) : Value → Bool → Prop
  | hit {v : Value} (h1 : ∃ e ∈ es, e.1 = key) (h2 : ∀ e ∈ es, e.1 = key → e.2 = v) : Found z es key v true
  | miss (h : ∀ e ∈ es, e.1 ≠ key) : Found z es key z false
end
end Go.Proofs.YtcpgpiabeimefaaGreatDoor

set_option linter.unusedVariables false
namespace Go.Proofs.YtcpgpiabeimefaaGreatDoor
open Go.RowKit

structure Wk (a b : AV) : Prop where
  cell : ydl a = true → ydl b = true
  rel : ∀ (ok : Nat → Prop) (w : World) (lv : Live) (v : Value), Rel ok w lv a v → Rel ok w lv b v
theorem ybk (a : AV) : Wk a a := ⟨fun h => h, fun _ _ _ _ h => h⟩
inductive WkL : List AV → List AV → Prop
  | nil : WkL [] []
  | cons {a b : AV} {l m : List AV} (h : Wk a b) (t : WkL l m) : WkL (a :: l) (b :: m)
inductive WkR : List (List AV) → List (List AV) → Prop
  | nil : WkR [] []
  | cons {a b : List AV} {l m : List (List AV)} (h : WkL a b) (t : WkR l m) : WkR (a :: l) (b :: m)
theorem calls_of_con {P : Program} {f : FuncId} {args : List AV} {x : Value} (hc : Con P f args (.v x)) {w : World} (hG : ykj w) {us : List Value} {ok : Nat → Prop} (hok : ∀ g, ok g → g < w.heap.size) (h : ybr ok w (fun _ => none) args us) : Calls P f us.toArray w fun e w' => e = .returned x ∧ Below w.heap.size w w' :=
  (hc.2.2 ok w us hG hok h).mono fun e w' ⟨u, h1, h2, h3⟩ => by cases h2; exact ⟨h1, h3⟩

section
variable {P : Program} {T : Nat → Option Ty} {N : Nat} {ops : Array Oper} {lf : Oper → Bool} {Q : SS → Prop} {t : List (Nat × AV)} {h : List (Nat × Option LObj)} {rest : List Oper} {d : Nat} {op : Op} {ty : TypeId} {pos : String} {af : Array Edge} {gd : Option (Nat × Bool)} {r : AV}
end
end Go.Proofs.YtcpgpiabeimefaaGreatDoor
set_option linter.unusedVariables false
namespace Go.Proofs.YtcpgpiabeimefaaGreatDoor
open Go.RowKit

section
variable {P : Program} {T : Nat → Option Ty} {N : Nat} {ops : Array Oper} {lf : Oper → Bool} {Q : SS → Prop} {t : List (Nat × AV)} {h : List (Nat × Option LObj)} {rest : List Oper} {d : Nat} {op : Op} {ty : TypeId} {pos : String} {af : Array Edge} {gd : Option (Nat × Bool)} {r : AV}
theorem Sim.ownH {B : Bse} {ok0 : Nat → Prop} {s : SS} {lv : Live} {a : Act} {w : World} (hs : Sim B ok0 N s lv a w) {id : Nat} (hf : yir s id) :
    ∃ lv', Sim B ok0 N ⟨s.t, yde s.h id (some (.vec []))⟩ lv' a w ∧ ∀ size, Rel (ybi B ok0 lv' w) w lv' (.ls id size 0) (.slice none 0 0) := by
  have hid : lv id = none := hs.inv.dom id hf.1
  have hsame : ∀ j b n, (fun j => if j = id then some (none, 0) else lv j : Live) j = some (some b, n) → lv j = some (some b, n) := by
    intro j b n hj
    simp only at hj
    split at hj
    · cases hj
    · exact hj
  have hok : ∀ g, ybi B ok0 lv w g → ybi B ok0 (fun j => if j = id then some (none, 0) else lv j) w g := fun g hg => ⟨hg.1, hg.2.1, fun j b n hj => hg.2.2 j b n (hsame j b n hj)⟩
  have hre : ∀ (x : AV) (u : Value), ment id x = false → Rel (ybi B ok0 lv w) w lv x u → Rel (ybi B ok0 (fun j => if j = id then some (none, 0) else lv j) w) w (fun j => if j = id then some (none, 0) else lv j) x u := fun x u hm hr =>
    (hr.relive fun j b n hj hmj => by
      split at hj
      · rename_i e; subst e; rw [hm] at hmj; cases hmj
      · exact hj).keep fun g hg => ⟨hok g hg, rfl⟩
  refine ⟨fun j => if j = id then some (none, 0) else lv j, ⟨⟨hs.inv.base, hs.inv.ok0lt, fun j hj => ?_, fun i j b n m h1 h2 => hs.inv.inj i j b n m (hsame _ _ _ h1) (hsame _ _ _ h2), fun j x hx => ?_⟩, hs.size, fun x y hy => ?_, hs.defers, hs.big, fun j b o hN hj hc hb => ?_⟩, fun size => ?_⟩
  · by_cases h : j = id
    · subst h; simp [yde] at hj
    · simp only [yde, h, if_false] at hj ⊢; exact hs.inv.dom j hj
  · by_cases h : j = id
    · subst h
      simp only [yde, if_true, Option.some.injEq] at hx
      subst hx
      exact ⟨none, 0, by simp, .inl rfl⟩
    · simp only [yde, h, if_false] at hx
      obtain ⟨b, n, h1, h2⟩ := hs.inv.obj j x hx
      refine ⟨b, n, by simp [h, h1], ?_⟩
      cases b with
      | none => exact h2
      | some b =>
        refine ⟨h2.1, h2.2.1, (h2.2.2.relive fun i b n hi hmi => ?_).keep (fun g hg => ⟨hok g hg, rfl⟩) rfl⟩
        split at hi
        · rename_i e; subst e; rw [hf.2.2 j x hx] at hmi; cases hmi
        · exact hi
  · have := hs.frame x y hy
    exact ⟨this.1, hre y _ (hf.2.1 x y hy) this.2⟩
  · by_cases h : j = id
    · subst h; simp only [yde, if_true, Option.some.injEq] at hj; subst hj; cases hc
    · simp only [yde, h, if_false] at hj ⊢
      exact hs.pin j b o hN hj hc hb
  · refine .ls _ rfl fun b n hb => ?_
    simp only [if_true, Option.some.injEq, Prod.mk.injEq] at hb
    obtain ⟨rfl, rfl⟩ := hb
    exact ⟨rfl, rfl⟩
theorem appendNil_loud (hT : TOK P T) {o : Oper} {ti e es eb sz : Nat} {ea ag : Bool} {ez z : List Value} {x y : Operand} {m : Nat} {cs : List AV} {src : AV} {s : SS} (id : Nat) (ho : o.op = .call { callee := .builtin .append, args := #[x, y], argTypes := #[ti, ti] }) (hd : o.dst = some d) (hdN : d < N) (hk : T ti = some ⟨.slc e es ea eb ez, sz, ag, z⟩)
    (hx : evF s.t x = some (.v (.slice none 0 0))) (hf : yir s id) (hy : evF s.t y = some src) (hsrc : ∀ (ok : Nat → Prop) (w : World) (lv : Live) (u : Value), Rel ok w lv src u → SrcAt ok w es m cs u ∧ ∀ c ∈ cs, ydl c = true) (hcp : ∀ c ∈ cs, ybp c = true) (hlim : m ≤ 4294967296 ∧ m * eb ≤ 140737488355328) :
    ygx P N o s (· = ⟨ygh s.t (some d) (.ls id es m), yde s.h id (some (.vec cs))⟩) := by
  intro B ok0 lv a w hs0 Q
  obtain ⟨lv1, hs, hnil⟩ := hs0.ownH hf
  obtain ⟨h1, h2⟩ := hsrc _ _ _ _ (hs.eval (s := ⟨s.t, yde s.h id (some (.vec []))⟩) hy)
  have hxv : a.eval x = .slice none 0 0 := yfv (hs0.eval hx)
  obtain ⟨v', w', lv', hrun0, hs', hrel⟩ := append_world (s' := ⟨s.t, yde s.h id (some (.vec cs))⟩) (ty := o.type) hs (hT _ _ hk).2.2 (id := id) (len := 0) (xs := []) (by simp [yde]) (by simp) (hnil es) h1 h2 hcp (by simpa using hlim)
    (fun x y h => .inr ⟨h, hf.2.1 x y h⟩) (fun x y h => ⟨y, h⟩) (fun j ob' hj hob => by
      simp only [yde, hj, if_false] at hob
      exact ⟨hf.2.2 j ob' hob, ob', by simp only [yde, hj, if_false]; exact hob, Or.inl rfl⟩) (by simp [yde])
  have hrun : (execOp a.eval o).run P w = .ok (.value v') w' := by
    simp only [execOp, ho, resolve, invoke, builtin, Sem.run_bind, Sem.run_pure, Result.andThen_ok, List.map_toArray, List.map_cons, List.map_nil, hxv, hrun0]
  unfold Oper.wp
  rw [hrun]
  simp only [Oper.upon, hd]
  rw [Nat.zero_add] at hrel
  exact ⟨_, lv', rfl, hs'.putOnly hdN hrel⟩
theorem L_appendNil (hT : TOK P T) {ti e es eb sz : Nat} {ea ag : Bool} {ez z : List Value} {x y : Operand} {rows : List (List AV)} (hk : T ti = some ⟨.slc e es ea eb ez, sz, ag, z⟩) (hx : evF (ybb t) x = some (.v (.slice none 0 0))) (hy : evF (ybb t) y = some (.sl es rows))
    (hcp : ∀ c ∈ rows.flatten, ybp c = true) (hlim : rows.length ≤ 4294967296 ∧ rows.length * eb ≤ 140737488355328) (h1 : yea d t = true) (h2 : ydt d h = true) (hl : lf ⟨some d, .call { callee := .builtin .append, args := #[x, y], argTypes := #[ti, ti] }, ty, pos, af, gd⟩ = true)
    (hw : yaz ops (ybb t) ⟨some d, .call { callee := .builtin .append, args := #[x, y], argTypes := #[ti, ti] }, ty, pos, af, gd⟩ = some true) (hd : Nat.blt d N = true) (k : Lex P N ops lf Q rest (S ((d, .ls d es rows.length) :: t) ((d, some (.vec rows.flatten)) :: h))) :
    Lex P N ops lf Q (⟨some d, .call { callee := .builtin .append, args := #[x, y], argTypes := #[ti, ti] }, ty, pos, af, gd⟩ :: rest) (S t h) := by
  refine yhi hl hw ?_ k
  rw [← S_upd]
  exact appendNil_loud hT d rfl rfl (by simpa using hd) hk hx (fresh_of h1 h2) hy (fun ok w lv u hr => src_sl hr) hcp hlim
end
section
variable {P : Program} {N : Nat} {ops : Array Oper} {lf : Oper → Bool} {Q Q0 : SS → Prop}
def stepOk (ops : Array Oper) (lf : Oper → Bool) (k : Nat) (listed : Array Bool) : Bool :=
  (Region.ready .any ops listed).contains k && (match ops[k]? with
      | none => false
      | some o => (if lf o then Region.ready .any ops listed == [k] else (List.range ops.size).all fun j => j == k || listed.getD j true || yhf ops ops.size j k || match ops[j]? with
        | some oj => o.apart ops oj && !lf oj
        | none => true))
def preOk (ops : Array Oper) (lf : Oper → Bool) : List Nat → Array Bool → Bool
  | [], _ => true
  | k :: ks, listed => stepOk ops lf k listed && preOk ops lf ks (listed.setIfInBounds k true)
def listAll : List Nat → Array Bool → Array Bool
  | [], listed => listed
  | k :: ks, listed => listAll ks (listed.setIfInBounds k true)
theorem anyA_pre {l : List Oper} {s : SS} {fuel : Nat} (h : Lex P N ops lf Q0 l s) (hD : ∀ (k : Nat) (o : Oper), ops[k]? = some o → yjl N o) : ∀ (ks : List Nat) (listed : Array Bool), (∀ j : Nat, l[j]? = (ks[j]?).bind (fun k : Nat => ops[k]?)) → ks.length = l.length → yij ops listed →
    (yij ops (listAll ks listed) → ∀ s', Q0 s' → ylb P N ops lf Q fuel (listAll ks listed) s') → preOk ops lf ks listed = true → ylb P N ops lf Q (l.length + fuel) listed s := by
  induction h with
  | @nil s h =>
    intro ks listed hl hlen hcl hend hB
    have : ks = [] := List.eq_nil_of_length_eq_zero (by simpa using hlen)
    subst this
    simpa [listAll] using hend hcl s h
  | @split l s d b hb k ih =>
    intro ks listed hl hlen hcl hend hB
    have := ih b rfl ks listed hl hlen hcl hend hB
    rw [yfw hb] at this
    exact this
  | @calm o l s r hw hd hy k ih =>
    intro ks listed hl hlen hcl hend hB
    match ks, hlen with
    | k :: ks, hlen =>
      have h0 : ops[k]? = some o := by simpa using (hl 0).symm
      simp only [preOk, stepOk, h0, Bool.and_eq_true] at hB
      obtain ⟨⟨hr, hf⟩, hB'⟩ := hB
      have hr' : k ∈ Region.ready .any ops listed := by simpa using hr
      have hk := ih ks (listed.setIfInBounds k true) (fun j => by have := hl (j + 1); simpa using this) (by simpa using hlen) (hcl.set hr') hend hB'
      rw [List.length_cons, Nat.add_right_comm]
      by_cases hlo : lf o = true
      · simp only [hlo, if_true, beq_iff_eq] at hf
        refine ⟨fun h => (by rw [hf] at h; cases h), fun i hi => ?_⟩
        rw [hf] at hi
        simp only [List.mem_singleton] at hi
        subst hi
        unfold aOp
        simp only [h0]
        exact ⟨hd, .inl ⟨r, .inl ⟨hw, hy⟩, hk⟩⟩
      · simp only [hlo] at hf
        refine anyA_first h0 hd (l.length + fuel) listed s hcl ?_ hr' (.inl ⟨hw, hy⟩) hk
        intro j oj hj hne hun
        simp only [Bool.false_eq_true, if_false, List.all_eq_true, List.mem_range] at hf
        have := hf j (Array.getElem?_eq_some_iff.1 hj).1
        simp only [hj, hun, Bool.or_eq_true, beq_iff_eq, hne, false_or, Bool.false_eq_true, Bool.and_eq_true, Bool.not_eq_true', or_false] at this
        exact this
  | @skip o l s hw hd k ih =>
    intro ks listed hl hlen hcl hend hB
    match ks, hlen with
    | k :: ks, hlen =>
      have h0 : ops[k]? = some o := by simpa using (hl 0).symm
      simp only [preOk, stepOk, h0, Bool.and_eq_true] at hB
      obtain ⟨⟨hr, hf⟩, hB'⟩ := hB
      have hr' : k ∈ Region.ready .any ops listed := by simpa using hr
      have hk := ih ks (listed.setIfInBounds k true) (fun j => by have := hl (j + 1); simpa using this) (by simpa using hlen) (hcl.set hr') hend hB'
      rw [List.length_cons, Nat.add_right_comm]
      by_cases hlo : lf o = true
      · simp only [hlo, if_true, beq_iff_eq] at hf
        refine ⟨fun h => (by rw [hf] at h; cases h), fun i hi => ?_⟩
        rw [hf] at hi
        simp only [List.mem_singleton] at hi
        subst hi
        unfold aOp
        simp only [h0]
        exact ⟨hd, .inl ⟨.v undef, .inr ⟨hw, rfl⟩, hk⟩⟩
      · simp only [hlo] at hf
        refine anyA_first h0 hd (l.length + fuel) listed s hcl ?_ hr' (.inr ⟨hw, rfl⟩) hk
        intro j oj hj hne hun
        simp only [Bool.false_eq_true, if_false, List.all_eq_true, List.mem_range] at hf
        have := hf j (Array.getElem?_eq_some_iff.1 hj).1
        simp only [hj, hun, Bool.or_eq_true, beq_iff_eq, hne, false_or, Bool.false_eq_true, Bool.and_eq_true, Bool.not_eq_true', or_false] at this
        exact this
  | @loud o l s R hlo hw hy k ih =>
    intro ks listed hl hlen hcl hend hB
    match ks, hlen with
    | k :: ks, hlen =>
      have h0 : ops[k]? = some o := by simpa using (hl 0).symm
      simp only [preOk, stepOk, h0, Bool.and_eq_true] at hB
      obtain ⟨⟨hr, hf⟩, hB'⟩ := hB
      have hr' : k ∈ Region.ready .any ops listed := by simpa using hr
      simp only [hlo, if_true, beq_iff_eq] at hf
      rw [List.length_cons, Nat.add_right_comm]
      refine ⟨fun h => (by rw [hf] at h; cases h), fun i hi => ?_⟩
      rw [hf] at hi
      simp only [List.mem_singleton] at hi
      subst hi
      unfold aOp
      simp only [h0]
      exact ⟨hD _ _ h0, .inr ⟨hlo, hw, R, hy, fun s' hs' => ih s' hs' ks (listed.setIfInBounds i true) (fun j => by have := hl (j + 1); simpa using this) (by simpa using hlen) (hcl.set hr') hend hB'⟩⟩
def numOk (ops : Array Oper) : List Nat → List Oper → Prop
  | [], [] => True
  | k :: ks, o :: l => ops[k]? = some o ∧ numOk ops ks l
  | _, _ => False
theorem numOk_nil : numOk ops [] [] := trivial
theorem yef {k : Nat} {ks : List Nat} {o : Oper} {l : List Oper} (h : ops[k]? = some o) (hl : numOk ops ks l) : numOk ops (k :: ks) (o :: l) := ⟨h, hl⟩
theorem numOk_get {ks : List Nat} : ∀ {l : List Oper}, numOk ops ks l → ks.length = l.length ∧ ∀ j : Nat, l[j]? = (ks[j]?).bind (fun k : Nat => ops[k]?) := by
  induction ks with
  | nil =>
    intro l h
    cases l with
    | nil => exact ⟨rfl, fun j => by simp⟩
    | cons o l => exact h.elim
  | cons k ks ih =>
    intro l h
    cases l with
    | nil => exact h.elim
    | cons o l =>
      obtain ⟨h1, h2⟩ := ih h.2
      refine ⟨by simp [h1], fun j => ?_⟩
      cases j with
      | zero => simp only [List.getElem?_cons_zero, Option.bind_some, h.1]
      | succ j => simpa using h2 j
def AnyB (P : Program) (N : Nat) (ops : Array Oper) (lf : Oper → Bool) (Q : SS → Prop) (fuel : Nat) (listed : Array Bool) (s : SS) : Prop :=
  (∀ (k : Nat) (o : Oper), ops[k]? = some o → yjl N o) → yij ops listed → ylb P N ops lf Q fuel listed s
theorem A_region_any {P : Program} {N : Nat} {Q : Exit → SS → Prop} {s : SS} {lf : Oper → Bool} (hm : P.follows .mixedOrders = true) {id : Nat} {l : List Oper} (hD : yja N l = true) (k : AnyB P N l.toArray lf (Q .normal) l.length (Array.replicate l.length false) s) : A P N (.region id l.toArray true) Q s := by
  intro B ok0 lv ac w hs
  have hDst : ∀ (k : Nat) (o : Oper), l.toArray[k]? = some o → yjl N o := fun k o ho d hd => by
    simp only [yja, Bool.and_eq_true, List.all_eq_true] at hD
    have := hD.1 o (by have := Array.mem_of_getElem? ho; simpa using this)
    simp only [hd, Nat.blt_eq] at this
    exact this
  have hnd : yex l = true := by simp only [yja, Bool.and_eq_true] at hD; exact hD.2
  refine wpIn_region_any hm ?_
  have key := k hDst (fun k o hk => by
    simp only [Array.getD_eq_getD_getElem?, Array.getElem?_replicate] at hk
    split at hk <;> simp at hk)
  have := anyA_sound (n := 0) (noDefer_get hnd) (Q' := fun e a' w' => ∃ s' lv', Q e s' ∧ Sim B ok0 N s' lv' a' w') (fun s lv a w hq hs => ⟨s, lv, hq, hs⟩) l.length _ s lv ac _ (hs.drew (w' := { w with drawn := w.drawn + 1 }) ⟨rfl, rfl, rfl, Nat.le_refl _, fun _ _ => rfl⟩) key
  simpa using this
theorem any_pre (ks : List Nat) (fuel : Nat) {n : Nat} {listed : Array Bool} {l : List Oper} {s : SS} (hn : numOk ops ks l) (hf : n = l.length + fuel) (hB : preOk ops lf ks listed = true) (k : Lex P N ops lf (AnyB P N ops lf Q fuel (listAll ks listed)) l s) : AnyB P N ops lf Q n listed s := by
  intro hD hcl
  subst hf
  obtain ⟨p1, p2⟩ := numOk_get hn
  exact anyA_pre k hD ks listed p2 p1 hcl (fun hc s' h => h hD hc) hB
theorem any_rest (ks : List Nat) {n : Nat} {listed : Array Bool} {l : List Oper} {s : SS} (hn : numOk ops ks l) (hf : n = l.length) (hB : yit ops lf ks listed = true) (k : Lex P N ops lf Q l s) : AnyB P N ops lf Q n listed s := by
  intro hD hcl
  subst hf
  obtain ⟨p1, p2⟩ := numOk_get hn
  exact anyA_lex k hD ks listed p2 p1 hcl hB
def forkAll (P : Program) (N : Nat) (ops : Array Oper) (lf : Oper → Bool) (Q : SS → Prop) (fuel : Nat) (listed : Array Bool) (s : SS) : List Nat → Prop
  | [] => True
  | k :: ks => (∃ o, ops[k]? = some o ∧ Lex P N ops lf (AnyB P N ops lf Q fuel (listed.setIfInBounds k true)) [o] s) ∧ forkAll P N ops lf Q fuel listed s ks
theorem forkAll_get {fuel : Nat} {listed : Array Bool} {s : SS} : ∀ {ks : List Nat}, forkAll P N ops lf Q fuel listed s ks → ∀ k ∈ ks, ∃ o, ops[k]? = some o ∧ Lex P N ops lf (AnyB P N ops lf Q fuel (listed.setIfInBounds k true)) [o] s
  | [], _, k, h => by cases h
  | x :: ks, hh, k, h => by
    rcases List.mem_cons.1 h with rfl | h
    · exact hh.1
    · exact forkAll_get hh.2 k h
theorem aOp_one {l : List Oper} {s : SS} {Q0 : SS → Prop} (h : Lex P N ops lf Q0 l s) (hD : ∀ (k : Nat) (o : Oper), ops[k]? = some o → yjl N o) : ∀ (o : Oper), l = [o] → ∀ (k : Nat), ops[k]? = some o → aOp P N ops lf k Q0 s := by
  have nilQ : ∀ {s : SS}, Lex P N ops lf Q0 [] s → Q0 s := by
    intro s h
    generalize hl : ([] : List Oper) = l at h
    induction h with
    | nil h => exact h
    | calm => cases hl
    | skip => cases hl
    | loud => cases hl
    | @split l s d b hb k ih =>
      have := ih b rfl hl
      rw [yfw hb] at this
      exact this
  induction h with
  | nil h => intro o hl; cases hl
  | @split l s d b hb k ih =>
    intro o hl k h0
    have := ih b rfl o hl k h0
    rw [yfw hb] at this
    exact this
  | @calm o l s r hw hd hy k ih =>
    intro o' hl k' h0
    cases hl
    unfold aOp
    simp only [h0]
    exact ⟨hd, .inl ⟨r, .inl ⟨hw, hy⟩, nilQ k⟩⟩
  | @skip o l s hw hd k ih =>
    intro o' hl k' h0
    cases hl
    unfold aOp
    simp only [h0]
    exact ⟨hd, .inl ⟨.v undef, .inr ⟨hw, rfl⟩, nilQ k⟩⟩
  | @loud o l s R hlo hw hy k ih =>
    intro o' hl k' h0
    cases hl
    unfold aOp
    simp only [h0]
    exact ⟨hD _ _ h0, .inr ⟨hlo, hw, R, hy, fun s' hs' => nilQ (k s' hs')⟩⟩
theorem any_fork (ks : List Nat) (fuel : Nat) {n : Nat} {listed : Array Bool} {s : SS} (hf : n = fuel + 1) (hr : Region.ready .any ops listed = ks) (hne : ks ≠ []) (k : forkAll P N ops lf Q fuel listed s ks) : AnyB P N ops lf Q n listed s := by
  intro hD hcl
  subst hf
  refine ⟨fun h => absurd (hr.symm.trans h) hne, fun i hi => ?_⟩
  obtain ⟨o, ho, hL⟩ := forkAll_get k i (hr ▸ hi)
  exact aOp_mono (fun s' h => h hD (hcl.set hi)) (aOp_one hL hD o rfl i ho)
end
end Go.Proofs.YtcpgpiabeimefaaGreatDoor
set_option linter.unusedVariables false
namespace Go.Proofs.YtcpgpiabeimefaaGreatDoor
open Go.RowKit
section
variable {P : Program} {T : Nat → Option Ty} {N : Nat} {ops : Array Oper} {lf : Oper → Bool} {Q : SS → Prop} {t : List (Nat × AV)} {h : List (Nat × Option LObj)} {rest : List Oper} {d : Nat} {op : Op} {ty : TypeId} {pos : String} {af : Array Edge} {gd : Option (Nat × Bool)} {r : AV}
theorem L_u8 (hT : TOK P T) {z : Int} (hr : stepC T t h op ty = some (.v (.int .u8 (IntKind.u8.wrap z)))) (h0 : 0 ≤ z ∧ z ≤ 255) (hw : yaz ops (ybb t) ⟨some d, op, ty, pos, af, gd⟩ = some true) (hd : Nat.blt d N = true) (k : Lex P N ops lf Q rest (S ((d, .v (.int .u8 z)) :: t) h)) :
    Lex P N ops lf Q (⟨some d, op, ty, pos, af, gd⟩ :: rest) (S t h) := by
  refine L_calm hT hr hw hd ?_
  have e : IntKind.u8.wrap z = z := by
    show z % 256 = z
    omega
  rw [e]
  exact k
end
def resOneT (T : Nat → Option Ty) (s : SS) : ResultVar → Option AV
  | .tmp t => evF s.t (.tmp t)
  | .cell b t => match T t with
    | some y => match evF s.t (.tmp b) with
      | some (.lp id off) => match yid (s.h id) with
        | some xs => ykr y.agg y.size (xs.drop off)
        | none => none
      | _ => none
    | none => none
def resLT (T : Nat → Option Ty) (s : SS) : List ResultVar → Option (List AV)
  | [] => some []
  | r :: rs => match resOneT T s r, resLT T s rs with
    | some x, some xs => some (x :: xs)
    | _, _ => none
def yjf (T : Nat → Option Ty) (s : SS) (rs : List ResultVar) : Option AV :=
  match resLT T s rs with
  | some [x] => some x
  | some xs => some (.tup xs)
  | none => none
theorem resOneT_run {P : Program} {T : Nat → Option Ty} (hT : TOK P T) {B : Bse} {ok0 : Nat → Prop} {N : Nat} {s : SS} {lv : Live} {a : Act} {w : World} (hs : Sim B ok0 N s lv a w) {r : ResultVar} {x : AV} (h : resOneT T s r = some x) : ∃ u, Rel (ybi B ok0 lv w) w lv x u ∧ (ykx a.tmps r).run P w = .ok u w := by
  cases r with
  | tmp t => exact ⟨_, hs.eval (x := .tmp t) h, by simp [ykx, Act.eval]⟩
  | cell b t =>
    simp only [resOneT] at h
    split at h
    · rename_i y hy
      split at h
      · rename_i id off hb
        split at h
        · rename_i xs hx
          obtain ⟨g1, g2⟩ := ydf hx
          obtain ⟨b', n, k1, k2, k3⟩ := ycq hs.inv g1 g2 (hs.eval (x := .tmp b) hb)
          have k4 := k3.drop off
          rw [Nat.zero_add] at k4
          obtain ⟨u, k5, k6⟩ := load_run (hT _ _ hy).1 k4 h
          have k2' : a.tmps.getD b undef = .pointer (some ⟨b', off, none⟩) := k2
          exact ⟨u, k6, by simp [ykx, k2', asAddr, k5]⟩
        · cases h
      · cases h
    · cases h
theorem resLT_run {P : Program} {T : Nat → Option Ty} (hT : TOK P T) {B : Bse} {ok0 : Nat → Prop} {N : Nat} {s : SS} {lv : Live} {a : Act} {w : World} (hs : Sim B ok0 N s lv a w) : ∀ (rs : List ResultVar) (xs : List AV), resLT T s rs = some xs →
    ∃ us : List Value, ybr (ybi B ok0 lv w) w lv xs us ∧ (rs.mapM (ykx a.tmps)).run P w = .ok us w
  | [], xs, h => by simp only [resLT, Option.some.injEq] at h; subst h; exact ⟨[], ⟨rfl, fun i x u h => by simp at h⟩, by simp⟩
  | r :: rs, xs, h => by
    simp only [resLT] at h
    split at h
    · rename_i x xs' h1 h2
      simp only [Option.some.injEq] at h
      subst h
      obtain ⟨us, hus, hrun⟩ := resLT_run hT hs rs xs' h2
      obtain ⟨u, hu, hrun1⟩ := resOneT_run hT hs h1
      refine ⟨u :: us, ⟨by simp [hus.1], fun i y v hy hv => ?_⟩, ?_⟩
      · cases i with
        | zero => simp only [List.getElem?_cons_zero, Option.some.injEq] at hy hv; subst hy hv; exact hu
        | succ i => exact hus.2 i y v (by simpa using hy) (by simpa using hv)
      · simp only [List.mapM_cons, Sem.run_bind, hrun1, Sem.run_pure, Result.andThen_ok, hrun]
    · cases h
theorem resAT_run {P : Program} {T : Nat → Option Ty} (hT : TOK P T) {B : Bse} {ok0 : Nat → Prop} {N : Nat} {s : SS} {lv : Live} {a : Act} {w : World} (hs : Sim B ok0 N s lv a w) {fn : Func} {rs : List ResultVar} (hr : fn.results = rs.toArray) {x : AV} (h : yjf T s rs = some x) :
    ∃ u, Rel (ybi B ok0 lv w) w lv x u ∧ (results fn a.tmps).run P w = .ok u w := by
  unfold yjf at h
  have key : ∀ xs, resLT T s rs = some xs → ∃ us : List Value, ybr (ybi B ok0 lv w) w lv xs us ∧ (results fn a.tmps).run P w = .ok (if h : us.toArray.size = 1 then us.toArray[0] else .tuple us.toArray) w := by
    intro xs hx
    obtain ⟨us, h1, h2⟩ := resLT_run hT hs rs xs hx
    refine ⟨us, h1, ?_⟩
    have e : results fn a.tmps = (fn.results.mapM (ykx a.tmps) >>= fun vs => pure (if h : vs.size = 1 then vs[0] else .tuple vs)) := rfl
    have e2 : (List.toArray <$> rs.mapM (ykx a.tmps)) = (rs.mapM (ykx a.tmps) >>= fun l => pure l.toArray) := rfl
    rw [e, hr, List.mapM_toArray, e2]
    simp only [Sem.run_bind, h2, Result.andThen_ok, Sem.run_pure]
  split at h
  · rename_i y hy
    simp only [Option.some.injEq] at h
    subst h
    obtain ⟨us, h1, h2⟩ := key _ hy
    match us, h1 with
    | [u], h1 => exact ⟨u, h1.2 0 _ _ rfl rfl, by simpa using h2⟩
  · rename_i xs hne hy
    simp only [Option.some.injEq] at h
    subst h
    obtain ⟨us, h1, h2⟩ := key _ hy
    refine ⟨.tuple us.toArray, .tup us h1.1 h1.2, ?_⟩
    rw [h2, dif_neg]
    intro h
    have hl := h1.1
    simp only [List.size_toArray] at h
    rw [h] at hl
    match xs, hl with
    | [x], _ => exact hne x rfl
  · cases h
def EndsT (T : Nat → Option Ty) (rs : List ResultVar) (y : AV) : Exit → SS → Prop
  | .normal, s => ∃ x, yjf T s rs = some x ∧ Frz s.h x y
  | .ret, s => ∃ x, yjf T s rs = some x ∧ Frz s.h x y
  | _, _ => False
theorem con_ofT {P : Program} {T : Nat → Option Ty} (hT : TOK P T) {f : FuncId} {fn : Func} {c : Code} {N : Nat} {rs : List ResultVar} {args : List AV} {r : AV} (hf : P.funcs[f]? = some fn) (hn : (fn.name == "runtime.NumGoroutine") = false) (hb : fn.body = some c) (hN : fn.ntmps = N) (hrs : fn.results = rs.toArray) (hlen : (Nat.ble args.length N && Nat.ble N 1000000) = true) (hp : ybp r = true)
    (h : A P N c (EndsT T rs r) (S (yfd 0 args) [])) : Con P f args r := by
  refine ⟨⟨fn, hf, hn, by simp [hb]⟩, hp, fun ok0 w us hG hok hus => ?_⟩
  simp only [Bool.and_eq_true, Nat.ble_eq] at hlen
  obtain ⟨hlen', hbig⟩ := hlen
  refine (callsIn_wide (n := 0)).1 (callsIn_of_wp_marks hf hb trivial ?_)
  have hst : S (yfd 0 args) [] = ⟨argsF args, fun _ => none⟩ := by unfold S; rw [enumF_args]; rfl
  have hs : Sim (bse0 w) ok0 N (S (yfd 0 args) []) (fun _ => none) { tmps := us.toArray ++ Array.replicate (fn.ntmps - us.toArray.size) undef, defers := [] } w := by
    rw [hst]
    refine ⟨⟨Based.start hG, hok, fun _ _ => rfl, (fun i j b n m h => by cases h), (fun id x hx => by cases hx)⟩, ?_, fun x y hy => ?_, ⟨[], rfl, List.nodup_nil, fun d hd => by cases hd⟩, hbig, fun id b xs _ hx => by cases hx⟩
    · simp [hN, hus.1]; omega
    · have hlt := (List.getElem?_eq_some_iff.1 hy).1
      refine ⟨.inl (by omega), ?_⟩
      rw [yev, if_pos (by omega)]
      obtain ⟨u, hu⟩ : ∃ u, us[x]? = some u := ⟨_, List.getElem?_eq_getElem (by rw [hus.1]; exact hlt)⟩
      simp only [getD_args us _ x u hu]
      exact (hus.2 x y u hy hu).keep fun g hg => ⟨⟨.inl hg, hok g hg, fun id b n hb => by cases hb⟩, rfl⟩
  refine wpIn_mono (h _ ok0 _ _ w hs) fun e a' w' ⟨s', lv', hq, hs'⟩ => ?_
  have fin : ∀ x, yjf T s' rs = some x → Frz s'.h x r → ∀ (a' : Act) (w' : World), Sim (bse0 w) ok0 N s' lv' a' w' → ∃ v, (results fn a'.tmps).run P w' = .ok v w' ∧ ∃ u, Ending.returned v = .returned u ∧ Rel (fun g => (ok0 g ∨ w.heap.size ≤ g) ∧ g < w'.heap.size) w' (fun _ => none) r u ∧ Below w.heap.size w w' := by
    intro x hx hfz a' w' hs'
    obtain ⟨u, hu, hrun⟩ := resAT_run hT hs' hrs hx
    exact ⟨u, hrun, u, rfl, (hfz _ _ _ _ _ hs'.inv hu).keep (fun g hg => ⟨⟨hg.1.imp (fun h => h) (fun h => h.elim (fun h => h.elim) (fun h => h)), hg.2⟩, rfl⟩), hs'.inv.base.below⟩
  cases e with
  | normal => obtain ⟨x, hx, hfz⟩ := hq; exact ycz rfl rfl (fin x hx hfz) _ a' w' rfl hs'
  | ret => obtain ⟨x, hx, hfz⟩ := hq; exact ycz rfl rfl (fin x hx hfz) _ a' w' rfl hs'
  | _ => exact hq.elim
end Go.Proofs.YtcpgpiabeimefaaGreatDoor
set_option linter.unusedVariables false
namespace Go.Proofs.YtcpgpiabeimefaaGreatDoor
open Go.RowKit
section
variable {P : Program} {T : Nat → Option Ty} {N : Nat} {ops : Array Oper} {lf : Oper → Bool} {Q : SS → Prop} {t : List (Nat × AV)} {h : List (Nat × Option LObj)} {rest : List Oper} {d : Nat} {op : Op} {ty : TypeId} {pos : String} {af : Array Edge} {gd : Option (Nat × Bool)} {r : AV}
theorem yield_b2s {ρ : Operand → Option AV} {hp : Nat → Option LObj} {src dst e : TypeId} {x : Operand} {n : Int} (hs : P.underlying src = some (.slice e)) (he : P.underlying e = some (.int .u8)) (hd : P.underlying dst = some .string) (hx : ρ x = some (.sl 1 [[.v (.int .u8 n)]])) :
    yct P hp ρ (.convert src dst x) ty (.v (.string (strOfNums [n]))) :=
  yat fun B ok0 lv w a o ho hty hi' hops => by
    have hr := hops x _ (by simp [Op.operands]) hx
    generalize hv : a.eval x = v at hr
    cases hr with
    | sl ad cap u g q hn hc ha hsz hg hcell hrel =>
      obtain ⟨rfl, hok⟩ := hg (by simp)
      have h1 := (hcell 0 0 _ _ rfl rfl).1
      have h2 := yfv (hrel 0 0 _ _ rfl rfl)
      rw [h2] at h1
      have hrun := run_convert_bytes_arg w src e hs he g q 1 cap [n] rfl (fun i hi => by
        obtain rfl : i = 0 := by omega
        simpa using h1) dst hd
      have hv' : a.eval x = .slice (some ⟨g, q, none⟩) 1 cap := hv
      exact ⟨_, by simp [execOp, ho, hv', hrun], .v _⟩
theorem L_b2s (hT : TOK P T) {src dst e es eb s1 s2 s3 : Nat} {ea a1 a2 a3 : Bool} {ez z1 z2 z3 : List Value} {x : Operand} {n : Int} (hs : T src = some ⟨.slc e es ea eb ez, s1, a1, z1⟩) (he : T e = some ⟨.int .u8, s2, a2, z2⟩) (hd' : T dst = some ⟨.string, s3, a3, z3⟩)
    (hx : evF (ybb t) x = some (.sl 1 [[.v (.int .u8 n)]])) (hw : yaz ops (ybb t) ⟨some d, .convert src dst x, ty, pos, af, gd⟩ = some true) (hd : Nat.blt d N = true) (k : Lex P N ops lf Q rest (S ((d, .v (.string (strOfNums [n]))) :: t) h)) : Lex P N ops lf Q (⟨some d, .convert src dst x, ty, pos, af, gd⟩ :: rest) (S t h) :=
  ycc (yield_b2s (hT _ _ hs).2.2.1 (hT _ _ he).2.2 (hT _ _ hd').2.2 hx) hw hd k
end
end Go.Proofs.YtcpgpiabeimefaaGreatDoor
