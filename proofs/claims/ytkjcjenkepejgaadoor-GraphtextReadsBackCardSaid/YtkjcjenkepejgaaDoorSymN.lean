/- More steps: append to nil, rows of an own slice read and written whole. No program. -/
import Derived.Test.YtkjcjenkepejgaaDoorSymR
set_option linter.unusedVariables false
namespace Go.Proofs.YtkjcjenkepejgaaDoor
open Go.RowKit

section
variable {P : Program} {T : Nat → Option Ty} {N : Nat} {ops : Array Oper} {lf : Oper → Bool} {Q : SS → Prop} {t : List (Nat × AV)} {h : List (Nat × Option LObj)} {rest : List Oper} {d : Nat} {op : Op} {ty : TypeId} {pos : String} {af : Array Edge} {gd : Option (Nat × Bool)} {r : AV}
/-- A slice of the call's own that is nil still. -/
theorem Sim.ownH {B : Bse} {ok0 : Nat → Prop} {s : SS} {lv : Live} {a : Act} {w : World} (hs : Sim B ok0 N s lv a w) {id : Nat} (hf : Fresh s id) :
    ∃ lv', Sim B ok0 N ⟨s.t, hupd s.h id (some (.vec []))⟩ lv' a w ∧ ∀ size, Rel (okOf B ok0 lv' w) w lv' (.ls id size 0) (.slice none 0 0) := by
  have hid : lv id = none := hs.inv.dom id hf.1
  have hsame : ∀ j b n, (fun j => if j = id then some (none, 0) else lv j : Live) j = some (some b, n) → lv j = some (some b, n) := by
    intro j b n hj
    simp only at hj
    split at hj
    · cases hj
    · exact hj
  have hok : ∀ g, okOf B ok0 lv w g → okOf B ok0 (fun j => if j = id then some (none, 0) else lv j) w g := fun g hg => ⟨hg.1, hg.2.1, fun j b n hj => hg.2.2 j b n (hsame j b n hj)⟩
  have hre : ∀ (x : AV) (u : Value), ment id x = false → Rel (okOf B ok0 lv w) w lv x u → Rel (okOf B ok0 (fun j => if j = id then some (none, 0) else lv j) w) w (fun j => if j = id then some (none, 0) else lv j) x u := fun x u hm hr =>
    (hr.relive fun j b n hj hmj => by
      split at hj
      · rename_i e; subst e; rw [hm] at hmj; cases hmj
      · exact hj).keep fun g hg => ⟨hok g hg, rfl⟩
  refine ⟨fun j => if j = id then some (none, 0) else lv j, ⟨⟨hs.inv.base, hs.inv.ok0lt, fun j hj => ?_, fun i j b n m h1 h2 => hs.inv.inj i j b n m (hsame _ _ _ h1) (hsame _ _ _ h2), fun j x hx => ?_⟩, hs.size, fun x y hy => ?_, hs.defers, fun j b o hN hj hc hb => ?_⟩, fun size => ?_⟩
  · by_cases h : j = id
    · subst h; simp [hupd] at hj
    · simp only [hupd, h, if_false] at hj ⊢; exact hs.inv.dom j hj
  · by_cases h : j = id
    · subst h
      simp only [hupd, if_true, Option.some.injEq] at hx
      subst hx
      exact ⟨none, 0, by simp, .inl rfl⟩
    · simp only [hupd, h, if_false] at hx
      obtain ⟨b, n, h1, h2⟩ := hs.inv.obj j x hx
      refine ⟨b, n, by simp [h, h1], ?_⟩
      cases b with
      | none => exact h2
      | some b =>
        refine ⟨h2.1, h2.2.1, (h2.2.2.relive fun i b n hi hmi => ?_).keep (fun g hg => ⟨hok g hg, rfl⟩) rfl⟩
        split at hi
        · rename_i e; subst e; rw [hf.2.2 j x hx] at hmi; cases hmi
        · exact hi
  · have := hs.frame x y hy
    exact ⟨this.1, hre y _ (hf.2.1 x y hy) this.2⟩
  · by_cases h : j = id
    · subst h; simp only [hupd, if_true, Option.some.injEq] at hj; subst hj; cases hc
    · simp only [hupd, h, if_false] at hj ⊢
      exact hs.pin j b o hN hj hc hb
  · refine .ls _ rfl fun b n hb => ?_
    simp only [if_true, Option.some.injEq, Prod.mk.injEq] at hb
    obtain ⟨rfl, rfl⟩ := hb
    exact ⟨rfl, rfl⟩
theorem appendNil_loud (hT : TOK P T) {o : Oper} {ti e es eb sz : Nat} {ea ag : Bool} {ez z : List Value} {x y : Operand} {m : Nat} {cs : List AV} {src : AV} {s : SS} (id : Nat) (ho : o.op = .call { callee := .builtin .append, args := #[x, y], argTypes := #[ti, ti] }) (hd : o.dst = some d) (hdN : d < N) (hk : T ti = some ⟨.slc e es ea eb ez, sz, ag, z⟩)
    (hx : evF s.t x = some (.v (.slice none 0 0))) (hf : Fresh s id) (hy : evF s.t y = some src) (hsrc : ∀ (ok : Nat → Prop) (w : World) (lv : Live) (u : Value), Rel ok w lv src u → SrcAt ok w es m cs u ∧ ∀ c ∈ cs, cellA c = true) (hcp : ∀ c ∈ cs, pureA c = true) (hlim : m ≤ 4294967296 ∧ m * eb ≤ 140737488355328) :
    LoudAt P N o s (· = ⟨updF s.t (some d) (.ls id es m), hupd s.h id (some (.vec cs))⟩) := by
  intro B ok0 lv a w hs0 Q
  obtain ⟨lv1, hs, hnil⟩ := hs0.ownH hf
  obtain ⟨h1, h2⟩ := hsrc _ _ _ _ (hs.eval (s := ⟨s.t, hupd s.h id (some (.vec []))⟩) hy)
  have hxv : a.eval x = .slice none 0 0 := rel_v (hs0.eval hx)
  obtain ⟨v', w', lv', hrun0, hs', hrel⟩ := append_world (s' := ⟨s.t, hupd s.h id (some (.vec cs))⟩) (ty := o.type) hs (hT _ _ hk).2.2 (id := id) (len := 0) (xs := []) (by simp [hupd]) (by simp) (hnil es) h1 h2 hcp (by simpa using hlim)
    (fun x y h => .inr ⟨h, hf.2.1 x y h⟩) (fun x y h => ⟨y, h⟩) (fun j ob' hj hob => by
      simp only [hupd, hj, if_false] at hob
      exact ⟨hf.2.2 j ob' hob, ob', by simp only [hupd, hj, if_false]; exact hob, Or.inl rfl⟩) (by simp [hupd])
  have hrun : (execOp a.eval o).run P w = .ok (.value v') w' := by
    simp only [execOp, ho, resolve, invoke, builtin, Sem.run_bind, Sem.run_pure, Result.andThen_ok, List.map_toArray, List.map_cons, List.map_nil, hxv, hrun0]
  unfold Oper.wp
  rw [hrun]
  simp only [Oper.upon, hd]
  rw [Nat.zero_add] at hrel
  exact ⟨_, lv', rfl, hs'.putOnly hdN hrel⟩
/-- Rows appended to nil: a slice of the call's own. -/
theorem L_appendNil (hT : TOK P T) {ti e es eb sz : Nat} {ea ag : Bool} {ez z : List Value} {x y : Operand} {rows : List (List AV)} (hk : T ti = some ⟨.slc e es ea eb ez, sz, ag, z⟩) (hx : evF (look t) x = some (.v (.slice none 0 0))) (hy : evF (look t) y = some (.sl es rows))
    (hcp : ∀ c ∈ rows.flatten, pureA c = true) (hlim : rows.length ≤ 4294967296 ∧ rows.length * eb ≤ 140737488355328) (h1 : freshT d t = true) (h2 : freshH d h = true) (hl : lf ⟨some d, .call { callee := .builtin .append, args := #[x, y], argTypes := #[ti, ti] }, ty, pos, af, gd⟩ = true)
    (hw : wantedF ops (look t) ⟨some d, .call { callee := .builtin .append, args := #[x, y], argTypes := #[ti, ti] }, ty, pos, af, gd⟩ = some true) (hd : Nat.blt d N = true) (k : Lex P N ops lf Q rest (S ((d, .ls d es rows.length) :: t) ((d, some (.vec rows.flatten)) :: h))) :
    Lex P N ops lf Q (⟨some d, .call { callee := .builtin .append, args := #[x, y], argTypes := #[ti, ti] }, ty, pos, af, gd⟩ :: rest) (S t h) := by
  refine L_loud hl hw ?_ k
  rw [← S_upd]
  exact appendNil_loud hT d rfl rfl (by simpa using hd) hk hx (fresh_of h1 h2) hy (fun ok w lv u hr => src_sl hr) hcp hlim
/-- A whole row is written into a slice of the call's own. -/
theorem L_storeV (hT : TOK P T) {ti : Nat} {y : Ty} {x v : Operand} {id off : Nat} {xs cs : List AV} {u : AV} (hy : T ti = some y) (hx : evF (look t) x = some (.lp id off)) (hv : evF (look t) v = some u) (hcs : cellsC u = some cs) (hcl : Nat.beq cs.length y.size = true) (hh : hlook h id = some (.vec xs)) (hlt : off + cs.length ≤ xs.length) (hne : xs ≠ []) (hp : pureA.pureL cs = true)
    (hl : lf ⟨none, .store ti x v, ty, pos, af, gd⟩ = true) (hw : wantedF ops (look t) ⟨none, .store ti x v, ty, pos, af, gd⟩ = some true) (k : Lex P N ops lf Q rest (S t ((id, some (.vec (xs.take off ++ cs ++ xs.drop (off + cs.length)))) :: h))) : Lex P N ops lf Q (⟨none, .store ti x v, ty, pos, af, gd⟩ :: rest) (S t h) := by
  refine L_loud hl hw (by rw [← S_h]; exact store_loud rfl rfl (hT _ _ hy).1 hx hv hcs (by simpa using hcl) hh (.vec hlt (pureL_mem hp) hne)) k
/-- A whole row is read from a slice of the call's own. -/
theorem L_loadV (hT : TOK P T) {ti : Nat} {y : Ty} {x : Operand} {id off : Nat} {xs cs : List AV} (hy : T ti = some y) (hag : y.agg = true) (hx : evF (look t) x = some (.lp id off)) (hh : cellsO (hlook h id) = some xs) (hne : xs ≠ []) (hr : takeN y.size (xs.drop off) = some cs)
    (hw : wantedF ops (look t) ⟨some d, .load ti x, ty, pos, af, gd⟩ = some true) (hd : Nat.blt d N = true) (k : Lex P N ops lf Q rest (S ((d, .agg cs) :: t) h)) : Lex P N ops lf Q (⟨some d, .load ti x, ty, pos, af, gd⟩ :: rest) (S t h) := by
  refine L_yield (yield_load_lp (hT _ _ hy).1 hx hh (.inl hne) ?_) hw hd k
  rw [hag]
  simp only [getA, hr]
/-- A slice of the call's own, named in a cell of a box of the call's own, is given up: it is only read from now on. -/
theorem Sim.freezeC {B : Bse} {ok0 : Nat → Prop} {s : SS} {lv : Live} {a : Act} {w : World} (hs : Sim B ok0 N s lv a w) {jb k id size len : Nat} {xs ys ys' : List AV} {rows : List (List AV)} (hj : s.h jb = some (.cells ys)) (hk : ys[k]? = some (.ls id size len)) (hx : s.h id = some (.vec xs)) (hlen : rows.length = len) (hsize : ∀ row ∈ rows, row.length = size) (hfl : rows.flatten = xs)
    {s' : SS} (ht : ∀ x y, s'.t x = some y → y = .any ∨ s.t x = some y) (hlt : ∀ x y, s'.t x = some y → ∃ z, s.t x = some z) (hid : s'.h id = none) (hj' : s'.h jb = some (.cells ys')) (hyl : ys'.length = ys.length) (hh : ∀ j ob', s'.h j = some ob' → ∃ ob, s.h j = some ob ∧ ForgO ob ob') : ∃ lv', Sim B ok0 N ⟨s'.t, hupd s'.h jb (some (.cells (ys'.set k (.sl size rows))))⟩ lv' a w := by
  obtain ⟨lv', h1, h2, h3, h4⟩ := hs.forg ht hlt hh
  refine ⟨lv', ?_⟩
  have hpure : ∀ x ∈ xs, ∀ i, ment i x = false := by
    intro x hxm i
    obtain ⟨b, n, g1, g2⟩ := hs.inv.obj id _ hx
    cases b with
    | none => simp only [OwnAt, reduceCtorEq, exists_const, or_false] at g2; cases g2; cases hxm
    | some b => exact pureA.ment (g2.2.2.2 x hxm)
  obtain ⟨bo, n, g1, g2⟩ := hs.inv.obj jb _ hj
  obtain ⟨bo', n', k1, k2⟩ := h1.inv.obj jb _ hj'
  have hsame := h2 jb bo' n' k1
  rw [g1] at hsame
  cases hsame
  cases bo with
  | none => simp [OwnAt] at g2
  | some b =>
    obtain ⟨q1, q2, c, e, q3, q4, q5, q6, q7⟩ := g2
    obtain ⟨r1, r2, c', e', r3, r4, r5, r6, r7⟩ := k2
    rw [q3] at r3
    cases r3
    have hkl := (List.getElem?_eq_some_iff.1 hk).1
    have hkc : k < c.size := by omega
    have hold : Rel (okOf B ok0 lv w) w lv (.ls id size len) c[k] := q7 k _ _ hk (by simp [hkc])
    have hnew : Rel (okOf B ok0 lv' w) w lv' (.sl size rows) c[k] := by
      have hr := ls_to_sl hs.inv hold (by rw [hx]; rfl) hlen hsize hfl hpure (okOf B ok0 lv' w) h4 (fun b n hb => ?_)
      · exact hr.relive fun i b n _ hm => by simp [ment] at hm
      · obtain ⟨_, _, g1, g2, _⟩ := hs.inv.lvat hb
        refine ⟨.inr g1, g2, fun j b' m hj he => ?_⟩
        subst he
        have := hs.inv.inj j id b' m n (h2 j _ m hj) hb
        subst this
        rw [h1.inv.dom j hid] at hj
        cases hj
    refine ⟨⟨h1.inv.base, h1.inv.ok0lt, fun j hjn => ?_, h1.inv.inj, fun j x hxj => ?_⟩, h1.size, h1.frame, h1.defers, fun j b o hN hjx hc hb => ?_⟩
    · by_cases hjj : j = jb
      · subst hjj; simp [hupd] at hjn
      · simp only [hupd, hjj, if_false] at hjn; exact h1.inv.dom j hjn
    · by_cases hjj : j = jb
      · subst hjj
        simp only [hupd, if_true, Option.some.injEq] at hxj
        subst hxj
        refine ⟨some b, n, k1, r1, r2, c, e, q3, q4, by simpa using r5, fun x hxm => ?_, fun i x u hi hu => ?_⟩
        · rcases List.mem_or_eq_of_mem_set hxm with hm | hm
          · exact r6 x hm
          · subst hm; rfl
        · rw [List.getElem?_set] at hi
          split at hi
          · rename_i e1
            subst e1
            split at hi
            · cases hi
              simp only [hkc, Array.getElem?_eq_getElem, Option.some.injEq] at hu
              subst hu
              exact hnew
            · cases hi
          · exact r7 i x u hi hu
      · simp only [hupd, hjj, if_false] at hxj
        exact h1.inv.obj j x hxj
    · by_cases hjj : j = jb
      · subst hjj
        exact h1.pin j b _ hN hj' rfl hb
      · simp only [hupd, hjj, if_false] at hjx
        exact h1.pin j b o hN hjx hc hb
theorem A_freezeC {c : Code} {Q : Exit → SS → Prop} {t' : List (Nat × AV)} {h' : List (Nat × Option LObj)} (jb k : Nat) {id size len : Nat} {xs ys ys' : List AV} (rows : List (List AV)) (hj : hlook h jb = some (.cells ys)) (hk : ys[k]? = some (.ls id size len)) (hx : hlook h id = some (.vec xs)) (hlen : rows.length = len) (hsize : ∀ row ∈ rows, row.length = size) (hfl : rows.flatten = xs)
    (ht : forgT id t = some t') (hh : forgH id h = some h') (hj' : hlook ((id, none) :: h') jb = some (.cells ys')) (hyl : Nat.beq ys'.length ys.length = true) (k : A P N c Q (S t' ((jb, some (.cells (ys'.set k (.sl size rows)))) :: (id, none) :: h'))) : A P N c Q (S t h) := by
  intro B ok0 lv a w hs
  obtain ⟨g1, g2⟩ := forgT_spec ht
  obtain ⟨lv', hs'⟩ := hs.freezeC (s' := S t' ((id, none) :: h')) hj hk hx hlen hsize hfl (fun x y hy => (g1 x y hy).imp (fun h => h) And.left) g2 (by simp [S, hlook]) hj' (Nat.eq_of_beq_eq_true hyl) (fun j ob' hj => by
    simp only [S, hlook] at hj
    split at hj
    · cases hj
    · exact (forgH_spec hh j ob' hj).2)
  refine k B ok0 lv' a w ?_
  rw [← S_h]
  exact hs'
end
/-! ### A drawn region in which two loud operations may come up in either order -/
section
variable {P : Program} {N : Nat} {ops : Array Oper} {lf : Oper → Bool} {Q Q0 : SS → Prop}
/-- One step of the walk's order. -/
def stepOk (ops : Array Oper) (lf : Oper → Bool) (k : Nat) (listed : Array Bool) : Bool :=
  (Region.ready .any ops listed).contains k && (match ops[k]? with
      | none => false
      | some o => (if lf o then Region.ready .any ops listed == [k] else (List.range ops.size).all fun j => j == k || listed.getD j true || waits ops ops.size j k || match ops[j]? with
        | some oj => o.apart ops oj && !lf oj
        | none => true))
def preOk (ops : Array Oper) (lf : Oper → Bool) : List Nat → Array Bool → Bool
  | [], _ => true
  | k :: ks, listed => stepOk ops lf k listed && preOk ops lf ks (listed.setIfInBounds k true)
def listAll : List Nat → Array Bool → Array Bool
  | [], listed => listed
  | k :: ks, listed => listAll ks (listed.setIfInBounds k true)
theorem anyA_pre {l : List Oper} {s : SS} {fuel : Nat} (h : Lex P N ops lf Q0 l s) (hD : ∀ (k : Nat) (o : Oper), ops[k]? = some o → DstOk N o) : ∀ (ks : List Nat) (listed : Array Bool), (∀ j : Nat, l[j]? = (ks[j]?).bind (fun k : Nat => ops[k]?)) → ks.length = l.length → Closed ops listed →
    (Closed ops (listAll ks listed) → ∀ s', Q0 s' → anyA P N ops lf Q fuel (listAll ks listed) s') → preOk ops lf ks listed = true → anyA P N ops lf Q (l.length + fuel) listed s := by
  induction h with
  | @nil s h =>
    intro ks listed hl hlen hcl hend hB
    have : ks = [] := List.eq_nil_of_length_eq_zero (by simpa using hlen)
    subst this
    simpa [listAll] using hend hcl s h
  | @split l s d b hb k ih =>
    intro ks listed hl hlen hcl hend hB
    have := ih b rfl ks listed hl hlen hcl hend hB
    rw [updF_same hb] at this
    exact this
  | @calm o l s r hw hd hy k ih =>
    intro ks listed hl hlen hcl hend hB
    match ks, hlen with
    | k :: ks, hlen =>
      have h0 : ops[k]? = some o := by simpa using (hl 0).symm
      simp only [preOk, stepOk, h0, Bool.and_eq_true] at hB
      obtain ⟨⟨hr, hf⟩, hB'⟩ := hB
      have hr' : k ∈ Region.ready .any ops listed := by simpa using hr
      have hk := ih ks (listed.setIfInBounds k true) (fun j => by have := hl (j + 1); simpa using this) (by simpa using hlen) (hcl.set hr') hend hB'
      rw [List.length_cons, Nat.add_right_comm]
      by_cases hlo : lf o = true
      · simp only [hlo, if_true, beq_iff_eq] at hf
        refine ⟨fun h => (by rw [hf] at h; cases h), fun i hi => ?_⟩
        rw [hf] at hi
        simp only [List.mem_singleton] at hi
        subst hi
        unfold aOp
        simp only [h0]
        exact ⟨hd, .inl ⟨r, .inl ⟨hw, hy⟩, hk⟩⟩
      · simp only [hlo] at hf
        refine anyA_first h0 hd (l.length + fuel) listed s hcl ?_ hr' (.inl ⟨hw, hy⟩) hk
        intro j oj hj hne hun
        simp only [Bool.false_eq_true, if_false, List.all_eq_true, List.mem_range] at hf
        have := hf j (Array.getElem?_eq_some_iff.1 hj).1
        simp only [hj, hun, Bool.or_eq_true, beq_iff_eq, hne, false_or, Bool.false_eq_true, Bool.and_eq_true, Bool.not_eq_true', or_false] at this
        exact this
  | @skip o l s hw hd k ih =>
    intro ks listed hl hlen hcl hend hB
    match ks, hlen with
    | k :: ks, hlen =>
      have h0 : ops[k]? = some o := by simpa using (hl 0).symm
      simp only [preOk, stepOk, h0, Bool.and_eq_true] at hB
      obtain ⟨⟨hr, hf⟩, hB'⟩ := hB
      have hr' : k ∈ Region.ready .any ops listed := by simpa using hr
      have hk := ih ks (listed.setIfInBounds k true) (fun j => by have := hl (j + 1); simpa using this) (by simpa using hlen) (hcl.set hr') hend hB'
      rw [List.length_cons, Nat.add_right_comm]
      by_cases hlo : lf o = true
      · simp only [hlo, if_true, beq_iff_eq] at hf
        refine ⟨fun h => (by rw [hf] at h; cases h), fun i hi => ?_⟩
        rw [hf] at hi
        simp only [List.mem_singleton] at hi
        subst hi
        unfold aOp
        simp only [h0]
        exact ⟨hd, .inl ⟨.v undef, .inr ⟨hw, rfl⟩, hk⟩⟩
      · simp only [hlo] at hf
        refine anyA_first h0 hd (l.length + fuel) listed s hcl ?_ hr' (.inr ⟨hw, rfl⟩) hk
        intro j oj hj hne hun
        simp only [Bool.false_eq_true, if_false, List.all_eq_true, List.mem_range] at hf
        have := hf j (Array.getElem?_eq_some_iff.1 hj).1
        simp only [hj, hun, Bool.or_eq_true, beq_iff_eq, hne, false_or, Bool.false_eq_true, Bool.and_eq_true, Bool.not_eq_true', or_false] at this
        exact this
  | @loud o l s R hlo hw hy k ih =>
    intro ks listed hl hlen hcl hend hB
    match ks, hlen with
    | k :: ks, hlen =>
      have h0 : ops[k]? = some o := by simpa using (hl 0).symm
      simp only [preOk, stepOk, h0, Bool.and_eq_true] at hB
      obtain ⟨⟨hr, hf⟩, hB'⟩ := hB
      have hr' : k ∈ Region.ready .any ops listed := by simpa using hr
      simp only [hlo, if_true, beq_iff_eq] at hf
      rw [List.length_cons, Nat.add_right_comm]
      refine ⟨fun h => (by rw [hf] at h; cases h), fun i hi => ?_⟩
      rw [hf] at hi
      simp only [List.mem_singleton] at hi
      subst hi
      unfold aOp
      simp only [h0]
      exact ⟨hD _ _ h0, .inr ⟨hlo, hw, R, hy, fun s' hs' => ih s' hs' ks (listed.setIfInBounds i true) (fun j => by have := hl (j + 1); simpa using this) (by simpa using hlen) (hcl.set hr') hend hB'⟩⟩
/-- The first operation of a walk, taken; the rest in the walk's order. -/
theorem aOp_lex {l : List Oper} {s : SS} (h : Lex P N ops lf Q l s) (hD : ∀ (k : Nat) (o : Oper), ops[k]? = some o → DstOk N o) : ∀ (o : Oper) (l' : List Oper), l = o :: l' → ∀ (k : Nat) (ks : List Nat) (listed : Array Bool), ops[k]? = some o → (∀ j : Nat, l'[j]? = (ks[j]?).bind (fun k : Nat => ops[k]?)) → ks.length = l'.length → k ∈ Region.ready .any ops listed → Closed ops listed →
    ordOk ops lf ks (listed.setIfInBounds k true) = true → aOp P N ops lf k (anyA P N ops lf Q l'.length (listed.setIfInBounds k true)) s := by
  induction h with
  | nil h => intro o l' hl; cases hl
  | @split l s d b hb k ih =>
    intro o l' hl k ks listed h0 hks hlen hr hcl hB
    have := ih b rfl o l' hl k ks listed h0 hks hlen hr hcl hB
    rw [updF_same hb] at this
    exact this
  | @calm o l s r hw hd hy k ih =>
    intro o' l' hl k' ks listed h0 hks hlen hr hcl hB
    cases hl
    unfold aOp
    simp only [h0]
    exact ⟨hd, .inl ⟨r, .inl ⟨hw, hy⟩, anyA_lex k hD ks _ hks hlen (hcl.set hr) hB⟩⟩
  | @skip o l s hw hd k ih =>
    intro o' l' hl k' ks listed h0 hks hlen hr hcl hB
    cases hl
    unfold aOp
    simp only [h0]
    exact ⟨hd, .inl ⟨.v undef, .inr ⟨hw, rfl⟩, anyA_lex k hD ks _ hks hlen (hcl.set hr) hB⟩⟩
  | @loud o l s R hlo hw hy k ih =>
    intro o' l' hl k' ks listed h0 hks hlen hr hcl hB
    cases hl
    unfold aOp
    simp only [h0]
    exact ⟨hD _ _ h0, .inr ⟨hlo, hw, R, hy, fun s' hs' => anyA_lex (k s' hs') hD ks _ hks hlen (hcl.set hr) hB⟩⟩
/-- The numbers stand for these operations. -/
def numOk (ops : Array Oper) : List Nat → List Oper → Prop
  | [], [] => True
  | k :: ks, o :: l => ops[k]? = some o ∧ numOk ops ks l
  | _, _ => False
theorem numOk_nil : numOk ops [] [] := trivial
theorem numOk_cons {k : Nat} {ks : List Nat} {o : Oper} {l : List Oper} (h : ops[k]? = some o) (hl : numOk ops ks l) : numOk ops (k :: ks) (o :: l) := ⟨h, hl⟩
theorem numOk_get {ks : List Nat} : ∀ {l : List Oper}, numOk ops ks l → ks.length = l.length ∧ ∀ j : Nat, l[j]? = (ks[j]?).bind (fun k : Nat => ops[k]?) := by
  induction ks with
  | nil =>
    intro l h
    cases l with
    | nil => exact ⟨rfl, fun j => by simp⟩
    | cons o l => exact h.elim
  | cons k ks ih =>
    intro l h
    cases l with
    | nil => exact h.elim
    | cons o l =>
      obtain ⟨h1, h2⟩ := ih h.2
      refine ⟨by simp [h1], fun j => ?_⟩
      cases j with
      | zero => simp only [List.getElem?_cons_zero, Option.bind_some, h.1]
      | succ j => simpa using h2 j
theorem A_region_fork {P : Program} {N : Nat} {Q : Exit → SS → Prop} {s : SS} {lf : Oper → Bool} (hm : P.follows .mixedOrders = true) {id : Nat} {l : List Oper} (ks ka : List Nat) (a b : Nat) {oa ob : Oper} {pre post : List Oper} (hpre : numOk l.toArray ks pre) (ha : l.toArray[a]? = some oa) (hb : l.toArray[b]? = some ob) (hpost : numOk l.toArray ka post) (hlen : pre.length + (post.length + 2) = l.length)
    (hB : preOk l.toArray lf ks (Array.replicate l.length false) = true) (hr : Region.ready .any l.toArray (listAll ks (Array.replicate l.length false)) = [a, b]) (h1 : ordOk l.toArray lf (b :: ka) ((listAll ks (Array.replicate l.length false)).setIfInBounds a true) = true) (h2 : ordOk l.toArray lf (a :: ka) ((listAll ks (Array.replicate l.length false)).setIfInBounds b true) = true)
    (hD : dstsOk N l = true) (k : Lex P N l.toArray lf (fun s' => Lex P N l.toArray lf (Q .normal) (oa :: ob :: post) s' ∧ Lex P N l.toArray lf (Q .normal) (ob :: oa :: post) s') pre s) : A P N (.region id l.toArray true) Q s := by
  intro B ok0 lv ac w hs
  have hDst : ∀ (k : Nat) (o : Oper), l.toArray[k]? = some o → DstOk N o := fun k o ho d hd => by
    simp only [dstsOk, List.all_eq_true] at hD
    have := hD o (by have := Array.mem_of_getElem? ho; simpa using this)
    simp only [hd, Nat.blt_eq] at this
    exact this
  obtain ⟨p1, p2⟩ := numOk_get hpre
  obtain ⟨q1, q2⟩ := numOk_get hpost
  have hall : ∀ {x y : Nat} {ox oy : Oper}, l.toArray[x]? = some ox → l.toArray[y]? = some oy → ∀ j : Nat, (oy :: post)[j]? = ((y :: ka)[j]?).bind (fun k : Nat => l.toArray[k]?) := by
    intro x y ox oy _ hy j
    cases j with
    | zero => simp only [List.getElem?_cons_zero, Option.bind_some, hy]
    | succ j => simpa using q2 j
  refine wp_region_any hm ?_
  have key := anyA_pre (Q := Q .normal) (fuel := post.length + 2) k hDst ks (Array.replicate l.length false) p2 p1 (fun k o hk => by
    simp only [Array.getD_eq_getD_getElem?, Array.getElem?_replicate] at hk
    split at hk <;> simp at hk) (fun hcl s' hq => by
      refine ⟨fun h => (by rw [hr] at h; cases h), fun i hi => ?_⟩
      have hi' := hi
      rw [hr] at hi'
      simp only [List.mem_cons, List.not_mem_nil, or_false] at hi'
      rcases hi' with rfl | rfl
      · exact aOp_lex hq.1 hDst _ _ rfl i (b :: ka) _ ha (hall ha hb) (by simp [q1]) hi hcl h1
      · exact aOp_lex hq.2 hDst _ _ rfl i (a :: ka) _ hb (hall hb ha) (by simp [q1]) hi hcl h2) hB
  rw [hlen] at key
  have := anyA_sound (Q' := fun e a' w' => ∃ s' lv', Q e s' ∧ Sim B ok0 N s' lv' a' w') (fun s lv a w hq hs => ⟨s, lv, hq, hs⟩) l.length _ s lv ac _ (hs.drew (w' := { w with drawn := w.drawn + 1 }) ⟨rfl, rfl, rfl, Nat.le_refl _, fun _ _ => rfl⟩) key
  simpa using this
/-- A drawn region from a point on: what is listed has run. -/
def AnyB (P : Program) (N : Nat) (ops : Array Oper) (lf : Oper → Bool) (Q : SS → Prop) (fuel : Nat) (listed : Array Bool) (s : SS) : Prop :=
  (∀ (k : Nat) (o : Oper), ops[k]? = some o → DstOk N o) → Closed ops listed → anyA P N ops lf Q fuel listed s
theorem A_region_any {P : Program} {N : Nat} {Q : Exit → SS → Prop} {s : SS} {lf : Oper → Bool} (hm : P.follows .mixedOrders = true) {id : Nat} {l : List Oper} (hD : dstsOk N l = true) (k : AnyB P N l.toArray lf (Q .normal) l.length (Array.replicate l.length false) s) : A P N (.region id l.toArray true) Q s := by
  intro B ok0 lv ac w hs
  have hDst : ∀ (k : Nat) (o : Oper), l.toArray[k]? = some o → DstOk N o := fun k o ho d hd => by
    simp only [dstsOk, List.all_eq_true] at hD
    have := hD o (by have := Array.mem_of_getElem? ho; simpa using this)
    simp only [hd, Nat.blt_eq] at this
    exact this
  refine wp_region_any hm ?_
  have key := k hDst (fun k o hk => by
    simp only [Array.getD_eq_getD_getElem?, Array.getElem?_replicate] at hk
    split at hk <;> simp at hk)
  have := anyA_sound (Q' := fun e a' w' => ∃ s' lv', Q e s' ∧ Sim B ok0 N s' lv' a' w') (fun s lv a w hq hs => ⟨s, lv, hq, hs⟩) l.length _ s lv ac _ (hs.drew (w' := { w with drawn := w.drawn + 1 }) ⟨rfl, rfl, rfl, Nat.le_refl _, fun _ _ => rfl⟩) key
  simpa using this
/-- These operations first, in this order. -/
theorem any_pre (ks : List Nat) (fuel : Nat) {n : Nat} {listed : Array Bool} {l : List Oper} {s : SS} (hn : numOk ops ks l) (hf : n = l.length + fuel) (hB : preOk ops lf ks listed = true) (k : Lex P N ops lf (AnyB P N ops lf Q fuel (listAll ks listed)) l s) : AnyB P N ops lf Q n listed s := by
  intro hD hcl
  subst hf
  obtain ⟨p1, p2⟩ := numOk_get hn
  exact anyA_pre k hD ks listed p2 p1 hcl (fun hc s' h => h hD hc) hB
/-- These operations to the end, in this order. -/
theorem any_rest (ks : List Nat) {n : Nat} {listed : Array Bool} {l : List Oper} {s : SS} (hn : numOk ops ks l) (hf : n = l.length) (hB : ordOk ops lf ks listed = true) (k : Lex P N ops lf Q l s) : AnyB P N ops lf Q n listed s := by
  intro hD hcl
  subst hf
  obtain ⟨p1, p2⟩ := numOk_get hn
  exact anyA_lex k hD ks listed p2 p1 hcl hB
def forkAll (P : Program) (N : Nat) (ops : Array Oper) (lf : Oper → Bool) (Q : SS → Prop) (fuel : Nat) (listed : Array Bool) (s : SS) : List Nat → Prop
  | [] => True
  | k :: ks => (∃ o, ops[k]? = some o ∧ Lex P N ops lf (AnyB P N ops lf Q fuel (listed.setIfInBounds k true)) [o] s) ∧ forkAll P N ops lf Q fuel listed s ks
theorem forkAll_get {fuel : Nat} {listed : Array Bool} {s : SS} : ∀ {ks : List Nat}, forkAll P N ops lf Q fuel listed s ks → ∀ k ∈ ks, ∃ o, ops[k]? = some o ∧ Lex P N ops lf (AnyB P N ops lf Q fuel (listed.setIfInBounds k true)) [o] s
  | [], _, k, h => by cases h
  | x :: ks, hh, k, h => by
    rcases List.mem_cons.1 h with rfl | h
    · exact hh.1
    · exact forkAll_get hh.2 k h
/-- The one operation of a walk, taken now. -/
theorem aOp_one {l : List Oper} {s : SS} {Q0 : SS → Prop} (h : Lex P N ops lf Q0 l s) (hD : ∀ (k : Nat) (o : Oper), ops[k]? = some o → DstOk N o) : ∀ (o : Oper), l = [o] → ∀ (k : Nat), ops[k]? = some o → aOp P N ops lf k Q0 s := by
  have nilQ : ∀ {s : SS}, Lex P N ops lf Q0 [] s → Q0 s := by
    intro s h
    generalize hl : ([] : List Oper) = l at h
    induction h with
    | nil h => exact h
    | calm => cases hl
    | skip => cases hl
    | loud => cases hl
    | @split l s d b hb k ih =>
      have := ih b rfl hl
      rw [updF_same hb] at this
      exact this
  induction h with
  | nil h => intro o hl; cases hl
  | @split l s d b hb k ih =>
    intro o hl k h0
    have := ih b rfl o hl k h0
    rw [updF_same hb] at this
    exact this
  | @calm o l s r hw hd hy k ih =>
    intro o' hl k' h0
    cases hl
    unfold aOp
    simp only [h0]
    exact ⟨hd, .inl ⟨r, .inl ⟨hw, hy⟩, nilQ k⟩⟩
  | @skip o l s hw hd k ih =>
    intro o' hl k' h0
    cases hl
    unfold aOp
    simp only [h0]
    exact ⟨hd, .inl ⟨.v undef, .inr ⟨hw, rfl⟩, nilQ k⟩⟩
  | @loud o l s R hlo hw hy k ih =>
    intro o' hl k' h0
    cases hl
    unfold aOp
    simp only [h0]
    exact ⟨hD _ _ h0, .inr ⟨hlo, hw, R, hy, fun s' hs' => nilQ (k s' hs')⟩⟩
/-- Whichever of those that are ready comes up. -/
theorem any_fork (ks : List Nat) (fuel : Nat) {n : Nat} {listed : Array Bool} {s : SS} (hf : n = fuel + 1) (hr : Region.ready .any ops listed = ks) (hne : ks ≠ []) (k : forkAll P N ops lf Q fuel listed s ks) : AnyB P N ops lf Q n listed s := by
  intro hD hcl
  subst hf
  refine ⟨fun h => absurd (hr.symm.trans h) hne, fun i hi => ?_⟩
  obtain ⟨o, ho, hL⟩ := forkAll_get k i (hr ▸ hi)
  exact aOp_mono (fun s' h => h hD (hcl.set hi)) (aOp_one hL hD o rfl i ho)
/-- The walk meets itself again in this state. -/
def Mid (t0 : List (Nat × AV)) (h0 : List (Nat × Option LObj)) (e : Exit) (s : SS) : Prop := e = .normal ∧ Sub (S t0 h0) s
theorem A_mid {x y : Code} {Q : Exit → SS → Prop} {s : SS} (t0 : List (Nat × AV)) (h0 : List (Nat × Option LObj)) (k1 : A P N x (Mid t0 h0) s) (k2 : A P N y Q (S t0 h0)) : A P N (.seq x y) Q s :=
  A_seq (k1.mono fun e s' ⟨he, hs⟩ => by subst he; exact A_weak k2 hs)
theorem mid {t0 t : List (Nat × AV)} {h0 h : List (Nat × Option LObj)} (h1 : subT t t0) (h2 : subH h h0) : Mid t0 h0 .normal (S t h) := ⟨rfl, subT_look h1, subH_look h2⟩
/-- An object by another name. -/
theorem L_sameH {t : List (Nat × AV)} {h : List (Nat × Option LObj)} {l : List Oper} (id : Nat) {x y : LObj} (hb : hlook h id = some x) (he : x = y) (k : Lex P N ops lf Q l (S t ((id, some y) :: h))) : Lex P N ops lf Q l (S t h) := by
  subst he
  have : S t ((id, some x) :: h) = S t h := by
    unfold S; rw [← hlook_cons]; congr 1; funext s; simp only [hupd]; split
    · rename_i e; rw [e, hb]
    · rfl
  rw [this] at k
  exact k
/-! ### Rows laid flat -/
theorem rows_len {α : Type} {f : α → List AV} {k : Nat} (hf : ∀ x, (f x).length = k) : ∀ l : List α, (l.map f).flatten.length = l.length * k
  | [] => by simp
  | x :: l => by simp [hf x, Nat.succ_mul, Nat.add_comm, ← rows_len hf l]
theorem takeN_append {a b : List AV} {k : Nat} (h : a.length = k) : takeN k (a ++ b) = some a := by
  subst h
  induction a with
  | nil => rfl
  | cons x a ih => simp only [List.cons_append, List.length_cons, takeN, ih]
theorem rows_get {α : Type} {f : α → List AV} {k : Nat} (hf : ∀ x, (f x).length = k) : ∀ {l : List α} {i : Nat} {x : α}, l[i]? = some x → takeN k ((l.map f).flatten.drop (i * k)) = some (f x)
  | y :: l, 0, x, h => by
    simp only [List.getElem?_cons_zero, Option.some.injEq] at h
    subst h
    simp only [List.map_cons, List.flatten_cons, Nat.zero_mul, List.drop_zero]
    exact takeN_append (hf y)
  | y :: l, i + 1, x, h => by
    simp only [List.getElem?_cons_succ] at h
    simp only [List.map_cons, List.flatten_cons, Nat.succ_mul]
    have e : ((f y) ++ (l.map f).flatten).drop (i * k + k) = (l.map f).flatten.drop (i * k) := by
      rw [Nat.add_comm, ← List.drop_drop, ← hf y, List.drop_left]
    rw [e]
    exact rows_get hf h
theorem rows_set {α : Type} {f : α → List AV} {k : Nat} (hf : ∀ x, (f x).length = k) : ∀ {l : List α} {i : Nat} {y : α}, i < l.length → (l.map f).flatten.take (i * k) ++ f y ++ (l.map f).flatten.drop (i * k + k) = ((l.set i y).map f).flatten
  | x :: l, 0, y, _ => by
    simp only [List.map_cons, List.flatten_cons, Nat.zero_mul, List.take_zero, List.nil_append, Nat.zero_add, List.set_cons_zero]
    rw [← hf x, List.drop_left]
  | x :: l, i + 1, y, h => by
    have ih := rows_set hf (l := l) (i := i) (y := y) (by simpa using h)
    simp only [List.map_cons, List.flatten_cons, List.set_cons_succ, Nat.succ_mul]
    have e1 : ((f x) ++ (l.map f).flatten).take (i * k + k) = f x ++ (l.map f).flatten.take (i * k) := by
      rw [List.take_append, hf x, List.take_of_length_le (by rw [hf x]; omega)]
      simp
    have e2 : ((f x) ++ (l.map f).flatten).drop (i * k + k + k) = (l.map f).flatten.drop (i * k + k) := by
      rw [show i * k + k + k = k + (i * k + k) by omega, ← List.drop_drop, ← hf x, List.drop_left]
    rw [e1, e2, ← ih]
    simp only [List.append_assoc]
end
end Go.Proofs.YtkjcjenkepejgaaDoor
